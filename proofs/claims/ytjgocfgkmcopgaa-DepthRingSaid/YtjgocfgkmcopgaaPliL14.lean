/- The document's steps: what the printed functions come to. -/
import Derived.Test.YtjgocfgkmcopgaaPliNt
import Derived.Test.YtjgocfgkmcopgaaPliL13E
namespace Go.Pli
open Go Go.PM
theorem sub_r (l : List Cl) (a b : Tp) : rsubB l a b = ksub l a b := by
 cases h3 : a.1 == 3
 ·unfold rsubB ksub
  rw [h3]
  cases a.1 == 4 <;> simp
 ·obtain ⟨a1, a2, ⟨⟩⟩ := a
  have : a1 = 3 := by simpa using h3
  subst this
  exact rsub_ksub l a2 b
theorem rsub_at {l : List Cl} (hl : okL l = true) (a b : Tp) : rsub l a b = some (ksub l a b, ()) := by
 unfold rsub; rw [hl, sub_r]; rfl
theorem rjoin_loop {l : List Cl} {xs ys : List Int} (hx : xs.length < 1000000) (hy : ys.length < 1000000) : ∀ (r pre : List Int) (F : Nat), xs = pre ++ r → r.length < F →
  loopF (rjoinL1 (xs, ()) (ys, ())) F ((pre.length : Int), ()) = some (match r.find? fun c => ys.contains c with | some c => (3, c, ()) | none => zTp, ())
 | [], pre, F, he, hF => by
  obtain ⟨F, rfl⟩ : ∃ n, F = n + 1 := ⟨F - 1, by simp at hF; omega⟩
  rw [List.append_nil] at he
  rw [loopF_step, rjoinL1, he]
  simp only [dnlt, cond_false, List.find?_nil]
 | c :: r, pre, F, he, hF => by
  obtain ⟨F, rfl⟩ : ∃ n, F = n + 1 := ⟨F - 1, by simp at hF; omega⟩
  have hk : pre.length < xs.length := by rw [he, List.length_append]; simp
  have hget : xs.getD pre.length 0 = c := by rw [he]; simp
  have ih := rjoin_loop (l := l) hx hy r (pre ++ [c]) F (by rw [he, List.append_assoc]; rfl) (by simp only [List.length_cons] at hF; omega)
  simp only [List.length_append, List.length_cons, List.length_nil, Nat.zero_add] at ih
  rw [loopF_step, rjoinL1]
  simp only [dlt hk, dge, Bool.and_self, cond_true, Int.toNat_natCast, hget, rin_at (show ys.length < 1000000000 by omega), Option.bind_some, wsucc hk (show _ ≤ lenMax by simp only [lenMax]; omega), List.find?_cons]
  cases ys.contains c <;> simp only [cond_true, cond_false]
  exact ih
theorem rjoin_ok (l : List Cl) (a b : Tp) (r) (h : rjoin l a b = some r) : ∃ k, rjoinN k l a b = some r := by
 unfold rjoin at h
 cases hb : okL l <;> simp only [hb, cond_true, cond_false] at h
 ·cases h
 injection h with h
 subst h
 have hl := okL_lt hb
 refine ⟨1000003, ?_⟩
 have hra : ∀ c, rabove l c = some (raboveB l c, ()) := fun c => by unfold rabove; rw [hb]; rfl
 unfold rjoinN joinB
 simp only [rsub_at hb, Option.bind_some, hra]
 cases ksub l a b <;> simp only [cond_true, cond_false]
 cases ksub l b a <;> simp only [cond_true, cond_false]
 cases h1 : a.1 != 3 <;> simp only [cond_true, cond_false, Bool.true_or, Bool.false_or]
 cases h2 : b.1 != 3 <;> simp only [cond_true, cond_false]
 by_cases hin : 0 ≤ a.2.1 ∧ a.2.1 < (l.length : Int)
 ·have hch : raboveB l a.2.1 = a.2.1 :: chain l (kup l a.2.1) := by
   unfold raboveB
   rw [decide_eq_true hin.2, cond_true, chain_step hin.1]
  have hlen := chain_len l (a.2.1.toNat + 1) a.2.1 (by omega)
  have hyb : (raboveB l b.2.1).length ≤ l.length := by
   unfold raboveB
   by_cases h : b.2.1 < (l.length : Int)
   ·simp only [h, decide_true, cond_true]
    by_cases h0 : 0 ≤ b.2.1
    ·have := chain_len l (b.2.1.toNat + 1) b.2.1 (by omega)
     omega
    ·rw [chain_neg (by omega)]; simp
   ·simp [h]
  have hxa : (raboveB l a.2.1).length ≤ l.length := by
   unfold raboveB
   rw [decide_eq_true hin.2, cond_true]
   omega
  have := rjoin_loop (l := l) (xs := raboveB l a.2.1) (ys := raboveB l b.2.1) (by omega) (by omega) (chain l (kup l a.2.1)) [a.2.1] 1000003 (by rw [hch]; rfl) (by
   rw [hch, List.length_cons] at hxa
   omega)
  refine this.trans ?_
  have hp : ∀ c ∈ chain l (kup l a.2.1), (raboveB l b.2.1).contains c = kbelow l b.2.1 c := by
   intro c hc
   have hcm := chain_mem _ _ (Nat.lt_succ_self _) hc
   have hk := kup_lt (l := l) hin.1
   unfold raboveB kbelow
   by_cases hbl : b.2.1 < (l.length : Int)
   ·have c1 : c < (l.length : Int) := by omega
    simp [hbl, hcm.1, c1]
   ·simp [hbl]
  have hf : (chain l (kup l a.2.1)).find? (fun c => (raboveB l b.2.1).contains c) = (chain l (kup l a.2.1)).find? fun c => kbelow l b.2.1 c := by
   generalize chain l (kup l a.2.1) = cs at hp
   induction cs with
   | nil => rfl
   | cons c cs ih =>
    rw [List.find?_cons, List.find?_cons, hp c (List.mem_cons_self ..), ih fun x hx => hp x (List.mem_cons_of_mem _ hx)]
  rw [hf]
  rfl
 ·have hk : kup l a.2.1 = -1 := by
   unfold kup
   by_cases h0 : a.2.1 < 0
   ·simp [h0]
   ·have : a.2.1 ≥ (l.length : Int) := by omega
    simp [this]
  rw [hk, chain_neg (by omega)]
  have hnil : raboveB l a.2.1 = [] := by
   unfold raboveB
   by_cases h1 : a.2.1 < (l.length : Int)
   ·rw [decide_eq_true h1, cond_true, chain_neg (by omega)]
   ·simp [h1]
  rw [hnil, show (1000003 : Nat) = 1000002 + 1 from rfl, loopF_step, rjoinL1]
  rfl
theorem gives_at (x : Mt) : r8givesN x = some (bif x.2.2.1.1 != 5 then [x.2.2.1] else [], ()) := by
 unfold r8givesN
 cases h : x.2.2.1.1 == 5 <;> simp [bne, h]
theorem r5local_at {x : Mt} (h1 : x.1.length < 1000000) (h2 : x.2.1.length < 1000000) (n : Int) : r5localN x n = some (localB x n, ()) := by
 unfold r5localN localB
 have e1 : decide (([] : List Tp).length + x.1.length < rowMax) = true := decide_eq_true (by simp only [List.length_nil, rowMax]; omega)
 have e2 : decide ((([] : List Tp) ++ x.1).length + x.2.1.length < rowMax) = true := decide_eq_true (by simp only [List.nil_append, rowMax]; omega)
 rw [e1, cond_true, e2, cond_true]
 rw [List.nil_append]
 by_cases h0 : n < 0
 ·rw [decide_eq_true h0]; rfl
 ·rw [decide_eq_false h0, cond_false, cond_false]
  by_cases h3 : n ≥ ((x.1 ++ x.2.1).length : Int)
  ·rw [decide_eq_true h3, cond_true, getD_out (by omega)]
  ·have h4 : 0 ≤ n := by omega
   have h5 : n < ((x.1 ++ x.2.1).length : Int) := by omega
   rw [decide_eq_false h3, cond_false, decide_eq_true h4, decide_eq_true h5]
   rfl
theorem rule_at {m : Im} (hs : saneP m = true) {i : Ins} {f : Int} (hf : inM m f = true) (hi : instrB m (mtOf m f) i = true) : r8ruleN m f i = some ((effB m (mtOf m f) i).1, (effB m (mtOf m f) i).2.1, ()) := by
 have hfit := (saneP_of hs).1
 have hcl := sane_allC hs
 obtain ⟨f0, f1⟩ := inM_iff.1 hf
 have hloc := sane_locals hs hf
 have fold : ∀ g : Int, m.2.2.2.1.getD g.toNat zMt = mtOf m g := fun _ => rfl
 have hF : ∀ c, r5fields m c = some (fieldsB m c, ()) := fun c => by unfold r5fields; rw [hfit]; rfl
 unfold r8ruleN effB
 simp only [fold, gives_at, Option.bind_some, hF, f0, f1, decide_true, Bool.and_self, cond_true, r5local_at (x := mtOf m f) (by omega) (by omega)]
 rcases i with ⟨o, a, b, ⟨⟩⟩
 simp only
 cases e : o == 1
 case true => obtain rfl : o = 1 := by simpa using e
              rfl
 cases e : o == 2
 case true => obtain rfl : o = 2 := by simpa using e
              rfl
 cases e : o == 3
 case true => obtain rfl : o = 3 := by simpa using e
              rfl
 cases e : o == 4
 case true => obtain rfl : o = 4 := by simpa using e
              rfl
 cases e : o == 5
 case true => obtain rfl : o = 5 := by simpa using e
              rfl
 cases e : o == 19
 case true => obtain rfl : o = 19 := by simpa using e
              rfl
 cases e : o == 20
 case true => obtain rfl : o = 20 := by simpa using e
              rfl
 cases e : o == 21
 case true => obtain rfl : o = 21 := by simpa using e
              rfl
 cases e : o == 22
 case true => obtain rfl : o = 22 := by simpa using e
              rfl
 cases e : o == 23
 case true => obtain rfl : o = 23 := by simpa using e
              rfl
 cases e : o == 24
 case true => obtain rfl : o = 24 := by simpa using e
              rfl
 cases e : o == 25
 case true => obtain rfl : o = 25 := by simpa using e
              rfl
 cases e : o == 26
 case true => obtain rfl : o = 26 := by simpa using e
              rfl
 cases e : o == 27
 case true =>
  obtain rfl : o = 27 := by simpa using e
  have : sin a (m.1.length : Int) = true ∧ sin b (fieldsC m a : Int) = true := by simpa [instrB] using hi
  obtain ⟨h1, h2⟩ := this
  simp only [sin, Bool.and_eq_true, decide_eq_true_eq] at h1 h2
  rw [← fieldsB_count h1.2] at h2
  have h64 := fieldsB_len hfit a
  have hw : IntKind.i64.wrap (b + 1) = b + 1 := by rw [w64'] <;> omega
  have c1 : b ≤ b + 1 := by omega
  have c2 : b + 1 ≤ ((fieldsB m a).length : Int) := by omega
  have e1 : ((fieldsB m a).take (b + 1).toNat).drop b.toNat = [(fieldsB m a).getD b.toNat zTp] := by
   have hk : b.toNat < (fieldsB m a).length := by omega
   rw [show (b + 1).toNat = b.toNat + 1 by omega, List.take_add_one, List.drop_append, List.drop_of_length_le (by rw [List.length_take]; omega), List.length_take, Nat.min_eq_left (by omega), Nat.sub_self]
   simp [hk]
  simp only [cond_true, hw, h2.1, c1, c2, decide_true, Bool.and_self, e1]
  rfl
 cases e : o == 28
 case true =>
  obtain rfl : o = 28 := by simpa using e
  have : sin a (m.1.length : Int) = true ∧ sin b (fieldsC m a : Int) = true := by simpa [instrB] using hi
  obtain ⟨h1, h2⟩ := this
  simp only [sin, Bool.and_eq_true, decide_eq_true_eq] at h1 h2
  rw [← fieldsB_count h1.2] at h2
  simp only [cond_true, h2.1, h2.2, decide_true, Bool.and_self]
  rfl
 cases e : o == 29
 case true =>
  obtain rfl : o = 29 := by simpa using e
  have : sin a (m.2.1.length : Int) = true := by simpa [instrB] using hi
  simp only [sin, Bool.and_eq_true, decide_eq_true_eq] at this
  simp only [cond_true, this.1, this.2, decide_true, Bool.and_self]
  rfl
 cases e : o == 30
 case true =>
  obtain rfl : o = 30 := by simpa using e
  have : sin a (m.2.1.length : Int) = true := by simpa [instrB] using hi
  simp only [sin, Bool.and_eq_true, decide_eq_true_eq] at this
  simp only [cond_true, this.1, this.2, decide_true, Bool.and_self]
  rfl
 cases e : o == 34
 case true => obtain rfl : o = 34 := by simpa using e
              rfl
 cases e : o == 33
 case true =>
  obtain rfl : o = 33 := by simpa using e
  simp only [cond_true]
  show _ = some ((bif (mtOf m f).2.2.1.1 != 5 then (([(mtOf m f).2.2.1], [], ()) : Eff) else ([], [], ())).1, (bif (mtOf m f).2.2.1.1 != 5 then (([(mtOf m f).2.2.1], [], ()) : Eff) else ([], [], ())).2.1, ())
  cases (mtOf m f).2.2.1.1 != 5 <;> rfl
 cases e : o == 31
 case true =>
  obtain rfl : o = 31 := by simpa using e
  have : sin a (m.2.2.2.1.length : Int) = true := by simpa [instrB] using hi
  simp only [sin, Bool.and_eq_true, decide_eq_true_eq] at this
  simp only [cond_true, this.1, this.2, decide_true, Bool.and_self]
  rfl
 cases e : o == 32
 case true =>
  obtain rfl : o = 32 := by simpa using e
  have : sin a (m.1.length : Int) = true ∧ sin b ((clOf m a).2.2.1.length : Int) = true := by simpa [instrB] using hi
  have hsl : hasSlot m a b = true := by unfold hasSlot; unfold sin at this; rw [this.1, this.2]; rfl
  have h1 := slot_at hsl
  simp only [sin, Bool.and_eq_true, decide_eq_true_eq] at this
  obtain ⟨h2, h3⟩ := slots_of (allC_of hcl this.1.1 this.1.2) h1
  have hg := sane_locals hs (f := (cslot m a b).1) (inM_iff.2 h2)
  have hr5 : r5slot m a b = cslot m a b := rfl
  have c1 : (1 : Int) ≤ ((mtOf m (cslot m a b).1).1.length : Int) := by omega
  have c2 : decide ([((3 : Int), a, ())].length + (((mtOf m (cslot m a b).1).1.take ((mtOf m (cslot m a b).1).1.length : Int).toNat).drop 1).length < rowMax) = true := decide_eq_true (by simp only [List.length_cons, List.length_nil, List.length_drop, List.length_take, rowMax]; omega)
  have c3 : decide (((mtOf m (cslot m a b).1).1.length : Int) ≤ ((mtOf m (cslot m a b).1).1.length : Int)) = true := decide_eq_true (by omega)
  simp only [cond_true, hr5, h2.1, h2.2, c1, c3, decide_true, Bool.and_self]
  rw [c2, cond_true, Int.toNat_natCast, List.take_length]
  rfl
 simp only [cond_false]
 by_cases h7 : o ≥ 7
 ·by_cases h17 : o ≤ 17
  ·have hn : numIs o = true := by unfold numIs; rw [decide_eq_true h7, decide_eq_true h17]; rfl
   have hp : fplain o = (([tI, tI], [tI], ()), true, ()) := by
    unfold fplain
    simp only [*, cond_false, cond_true]
    have e18 : (o == 18) = false := beq_eq_false_iff_ne.2 (by omega)
    rw [e18]
    rfl
   rw [hp, decide_eq_true h7, decide_eq_true h17]
   rfl
  ·have hp : (fplain o).1 = ([], [], ()) ∧ ((fplain o).2.1 = true → True) := by
    have hn : numIs o = false := by unfold numIs; rw [decide_eq_false h17]; simp
    unfold fplain
    simp only [*, cond_false]
    cases o == 18 <;> exact ⟨rfl, fun _ => trivial⟩
   rw [decide_eq_true h7, decide_eq_false h17, hp.1]
   cases (fplain o).2.1 <;> rfl
 ·have hp : (fplain o).1 = ([], [], ()) := by
   have hn : numIs o = false := by unfold numIs; rw [decide_eq_false h7]; simp
   unfold fplain
   simp only [*, cond_false]
   cases o == 18 <;> rfl
  rw [decide_eq_false h7, hp]
  cases (fplain o).2.1 <;> rfl
end Go.Pli

namespace Go.Pli
open Go Go.PM
def tail8 (fuel : Nat) (m : Im) (f : Int) (pc : Int) (s : List Tp) (nx : List Int) : Option (List Tp × List Int × Int × Unit) :=
 (bif decide ((nx.length : Int) > 0) then
  bif decide ((0 : Int) < nx.length) then
   bif decide (0 ≤ f) && decide (f < m.2.2.2.1.length) then
    bif decide (nx.getD 0 0 ≥ ((m.2.2.2.1.getD f.toNat zMt).2.2.2.1.length : Int)) then
     some (.inr (([] : List Tp), (([] : List Int), ((4 : Int), ()))))
    else some (.inl ())
   else none
  else none
 else some (.inl ()) : Option (Unit ⊕ (List Tp × List Int × Int × Unit))).bind fun q => match q with
 | .inr r8 => some r8
 | .inl _ =>
  (r8ruleN m f ((m.2.2.2.1.getD f.toNat zMt).2.2.2.1.getD pc.toNat zIns)).bind fun r9 =>
  ((bif (((m.2.2.2.1.getD f.toNat zMt).2.2.2.1.getD pc.toNat zIns).1) == 6 then
   some (.inl (decide ((s.length : Int) > 0), ()))
  else some (.inl (false, ())) : Option ((Bool × Unit) ⊕ ((List Tp × List Tp × Unit) ⊕ (List Tp × List Int × Int × Unit)))).bind fun q => match q with
  | .inr r13 => some r13
  | .inl s12 =>
   bif s12.1 then
    bif decide (0 ≤ IntKind.i64.wrap ((s.length : Int) - 1)) && decide (IntKind.i64.wrap ((s.length : Int) - 1) < s.length) then
     some (.inl ([((0 : Int), ((0 : Int), ()))], ([s.getD (IntKind.i64.wrap ((s.length : Int) - 1)).toNat zTp, s.getD (IntKind.i64.wrap ((s.length : Int) - 1)).toNat zTp], ())))
    else none
   else some (.inl (r9.1, r9.2.1, ())) : Option ((List Tp × List Tp × Unit) ⊕ (List Tp × List Int × Int × Unit))).bind fun q => match q with
  | .inr r11 => some r11
  | .inl s10 =>
   (bif (((m.2.2.2.1.getD f.toNat zMt).2.2.2.1.getD pc.toNat zIns).1) == 6 then
    bif (s.length : Int) == 0 then
     some (.inr (([] : List Tp), (([] : List Int), ((4 : Int), ()))))
    else bif decide ((s10.1.length : Int) > (s.length : Int)) then
     some (.inr (([] : List Tp), (([] : List Int), ((4 : Int), ()))))
    else bif decide (IntKind.i64.wrap ((IntKind.i64.wrap ((s.length : Int) - (s10.1.length : Int))) + (s10.2.1.length : Int)) > 8) then
     some (.inr (([] : List Tp), (([] : List Int), ((4 : Int), ()))))
    else some (.inl ())
   else bif decide ((s10.1.length : Int) > (s.length : Int)) then
    some (.inr (([] : List Tp), (([] : List Int), ((4 : Int), ()))))
   else bif decide (IntKind.i64.wrap ((IntKind.i64.wrap ((s.length : Int) - (s10.1.length : Int))) + (s10.2.1.length : Int)) > 8) then
    some (.inr (([] : List Tp), (([] : List Int), ((4 : Int), ()))))
   else some (.inl ()) : Option (Unit ⊕ (List Tp × List Int × Int × Unit))).bind fun q => match q with
   | .inr r15 => some r15
   | .inl _ =>
    loopF (r8stepL1 m f pc s (nx, ()) s10) fuel ((0 : Int), ())
theorem wpred14 {n : Nat} (h : 0 < n) (h2 : n < 1000000) : IntKind.i64.wrap ((n : Int) - 1) = ((n - 1 : Nat) : Int) := by
 rw [w64'] <;> omega
theorem fits_loop {m : Im} (hs : saneP m = true) {f pc : Int} {s : List Tp} (hsl : s.length < 1000000) {nx : List Int} {T Gv : List Tp} (hT : T.length ≤ s.length) (hT2 : T.length ≤ 12) (hG : Gv.length ≤ 12) {F : Nat} (hF : 100 < F) :
  loopF (r8stepL1 m f pc s (nx, ()) (T, Gv, ())) F ((0 : Int), ()) = some (bif ((s.drop (s.length - T.length)).zip T).all (fun p => ffits m (insOf m f pc).1 p.1 p.2) then (s.take (s.length - T.length) ++ Gv, nx, 0, ()) else ([], [], 4, ())) := by
 have hok : okL m.1 = true := okL_of (by have := (fit_of (saneP_of hs).1).classes; omega)
 have fold : ∀ g : Int, m.2.2.2.1.getD g.toNat zMt = mtOf m g := fun _ => rfl
 have fold2 : (mtOf m f).2.2.2.1.getD pc.toNat zIns = insOf m f pc := rfl
 have hzip := zip_all_drop (fun a b => ffits m (insOf m f pc).1 a b) zTp zTp (s.drop (s.length - T.length)) T (by rw [List.length_drop]; omega)
 rw [hzip]
 generalize hD : s.length - T.length = D at *
 have hDi : (s.length : Int) - (T.length : Int) = (D : Int) := by omega
 have w4 : IntKind.i64.wrap (D : Int) = (D : Int) := by rw [w64'] <;> omega
 rw [show (T.zipIdx.all fun q => ffits m (insOf m f pc).1 ((s.drop D).getD q.2 zTp) q.1) = allN (fun k x => ffits m (insOf m f pc).1 ((s.drop D).getD k zTp) x) 0 T by
  rw [Bool.eq_iff_iff, allN_true, List.all_eq_true]
  constructor
  ·intro hh j x hx
   have := hh (x, j) (by rw [List.mem_zipIdx_iff_getElem?]; exact hx)
   simpa using this
  ·rintro hh ⟨x, j⟩ hx
   rw [List.mem_zipIdx_iff_getElem?] at hx
   have := hh j x hx
   simpa using this]
 refine (loop_allN (xs := T) (st := fun k => ((k : Int), ())) (p := fun k x => ffits m (insOf m f pc).1 ((s.drop D).getD k zTp) x) (ex := some ([], [], 4, ())) (fin := some (s.take D ++ Gv, nx, 0, ())) (fun k x rec hk hlt => ?_) (fun rec => ?_) F (by omega)).trans ?_
 ·have hx : (s.drop D).getD k zTp = s.getD (D + k) zTp := by simp [List.getElem?_drop]
  have w3 : IntKind.i64.wrap ((D : Int) + (k : Int)) = ((D + k : Nat) : Int) := by rw [w64'] <;> omega
  have hw := wsucc hlt (show _ ≤ lenMax by simp only [lenMax]; omega)
  rw [r8stepL1]
  simp only [w4, hDi, w3, fold, fold2, dlt hlt, dge, dlt (show D + k < s.length by omega), Bool.and_self, cond_true, Int.toNat_natCast, getD_some hk, hx, hw, rsub_at hok, Option.bind_some, ffits, risref, bne]
  generalize s.getD (D + k) zTp = t
  cases x.1 == 0 <;> simp only [cond_true, cond_false]
  cases x.1 == 4 <;> simp only [cond_true, cond_false]
  ·cases ksub m.1 t x <;> rfl
  ·cases kisref t <;> simp only [Bool.not_true, Bool.not_false, cond_true, cond_false, Bool.false_and, Bool.true_and]
   cases (insOf m f pc).1 == 34 <;> simp only [Bool.not_true, Bool.not_false, cond_true, cond_false, Bool.false_or, Bool.true_or]
   cases t.1 == 2 <;> simp only [Bool.not_true, Bool.not_false, cond_true, cond_false]
 ·have l3 : (D : Int) ≤ (s.length : Int) := by omega
  have r1 : decide (([] : List Tp).length + (s.take D).length < rowMax) = true := decide_eq_true (by simp only [List.length_nil, List.length_take, rowMax]; omega)
  have r2 : decide ((([] : List Tp) ++ s.take D).length + Gv.length < rowMax) = true := decide_eq_true (by simp only [List.nil_append, List.length_take, rowMax]; omega)
  rw [r8stepL1]
  simp only [w4, hDi, dnlt, cond_false, dge, l3, decide_true, Bool.and_self, cond_true, Int.toNat_natCast, List.drop_zero, r1, r2]
  rw [List.nil_append]
 ·cases allN (fun k x => ffits m (insOf m f pc).1 ((s.drop D).getD k zTp) x) 0 T <;> rfl
theorem tail8_at {m : Im} (hs : saneP m = true) {f pc : Int} {s : List Tp} (hsl : s.length < 1000000) (hf : inM m f = true) (hp : sin pc (codeN m f : Int) = true) {F : Nat} (hF : 100 < F) : tail8 F m f pc s (fnexts (insOf m f pc) pc) = some (stepB m f pc s) := by
 obtain ⟨f0, f1⟩ := inM_iff.1 hf
 have hp' := hp
 simp only [sin, Bool.and_eq_true, decide_eq_true_eq] at hp'
 have hc := sane_code hs hf
 have hi := sane_instr hs hf hp
 have fold : ∀ g : Int, m.2.2.2.1.getD g.toNat zMt = mtOf m g := fun _ => rfl
 have fold2 : (mtOf m f).2.2.2.1.getD pc.toNat zIns = insOf m f pc := rfl
 have fold3 : (mtOf m f).2.2.2.1.length = codeN m f := rfl
 have hw : IntKind.i64.wrap (pc + 1) = pc + 1 := by rw [w64'] <;> omega
 have hcnd : (bif decide (((fnexts (insOf m f pc) pc).length : Int) > 0) then decide ((fnexts (insOf m f pc) pc).getD 0 0 ≥ (codeN m f : Int)) else false) = (fnexts (insOf m f pc) pc).contains (codeN m f : Int) := by
  have hj : ((insOf m f pc).1 == 18 || (insOf m f pc).1 == 19) = true → (insOf m f pc).2.1 < (codeN m f : Int) := by
   intro hh
   have : sin (insOf m f pc).2.1 (codeN m f : Int) = true := by
    rw [Bool.or_eq_true] at hh
    unfold instrB at hi
    rcases hh with hh | hh <;> (have e := eq_of_beq hh; rw [e] at hi; exact hi)
   simp only [sin, Bool.and_eq_true, decide_eq_true_eq] at this
   exact this.2
  have hpc : decide (pc + 1 ≥ (codeN m f : Int)) = (pc + 1 == (codeN m f : Int)) := by
   rw [Bool.eq_iff_iff, decide_eq_true_eq, beq_iff_eq]; omega
  have hpc2 : ((codeN m f : Int) == pc + 1) = (pc + 1 == (codeN m f : Int)) := by
   rw [Bool.eq_iff_iff, beq_iff_eq, beq_iff_eq]; omega
  unfold fnexts
  rw [hw]
  cases h1 : (insOf m f pc).1 == 18 <;> simp only [cond_true, cond_false]
  ·cases h2 : (insOf m f pc).1 == 19 <;> simp only [cond_true, cond_false]
   ·cases (insOf m f pc).1 == 33 <;> simp only [cond_true, cond_false]
    ·simp only [List.length_cons, List.length_nil, List.getD_cons_zero, List.contains_cons, List.contains_nil, Bool.or_false, hpc, hpc2]
     rfl
    ·rfl
   ·have := hj (by rw [h2, Bool.or_true])
    have e : ((codeN m f : Int) == (insOf m f pc).2.1) = false := beq_eq_false_iff_ne.2 (by omega)
    simp only [List.length_cons, List.length_nil, List.getD_cons_zero, List.contains_cons, List.contains_nil, Bool.or_false, hpc, hpc2, e]
    rfl
  ·have := hj (by rw [h1, Bool.true_or])
   have e : ((codeN m f : Int) == (insOf m f pc).2.1) = false := beq_eq_false_iff_ne.2 (by omega)
   have e2 : decide ((insOf m f pc).2.1 ≥ (codeN m f : Int)) = false := decide_eq_false (by omega)
   simp only [List.length_cons, List.length_nil, List.getD_cons_zero, List.contains_cons, List.contains_nil, Bool.or_false, e, e2]
   rfl
 unfold tail8 stepB
 simp only [fold, fold2, fold3, rule_at hs hf hi, f0, f1, hf, hp, decide_true, Bool.and_self, Bool.not_true, cond_true, cond_false]
 rw [← hcnd]
 have hsm := small_eff hs (f := f) hi
 generalize effB m (mtOf m f) (insOf m f pc) = E at hsm ⊢
 generalize fnexts (insOf m f pc) pc = nx
 obtain ⟨hE1, hE2⟩ := hsm
 have e1 : (bif decide ((nx.length : Int) > 0) then bif decide ((0 : Int) < nx.length) then bif decide (nx.getD 0 0 ≥ (codeN m f : Int)) then (some (.inr (([] : List Tp), (([] : List Int), ((4 : Int), ())))) : Option (Unit ⊕ St4)) else some (.inl ()) else none else some (.inl ())) =
   some (bif (bif decide ((nx.length : Int) > 0) then decide (nx.getD 0 0 ≥ (codeN m f : Int)) else false) then .inr ([], [], 4, ()) else .inl ()) := by
  by_cases h : (nx.length : Int) > 0
  ·rw [decide_eq_true h, cond_true, cond_true, cond_true]
   cases decide (nx.getD 0 0 ≥ (codeN m f : Int)) <;> rfl
  ·rw [decide_eq_false h]; rfl
 rw [e1]
 cases (bif decide ((nx.length : Int) > 0) then decide (nx.getD 0 0 ≥ (codeN m f : Int)) else false) <;> simp only [cond_true, cond_false, Option.bind_some]
 cases h6 : (insOf m f pc).1 == 6 <;> simp only [cond_true, cond_false, Option.bind_some]
 ·unfold stepE
  by_cases l1 : s.length < E.1.length
  ·have : (E.1.length : Int) > (s.length : Int) := by omega
   rw [decide_eq_true this, decide_eq_true l1]
   rfl
  have l1' : ¬ (E.1.length : Int) > (s.length : Int) := by omega
  rw [decide_eq_false l1', decide_eq_false l1, cond_false, Bool.false_or]
  have w1 : IntKind.i64.wrap ((s.length : Int) - (E.1.length : Int)) = (s.length : Int) - (E.1.length : Int) := by rw [w64'] <;> omega
  have w2 : IntKind.i64.wrap ((s.length : Int) - (E.1.length : Int) + (E.2.1.length : Int)) = (s.length : Int) - (E.1.length : Int) + (E.2.1.length : Int) := by rw [w64'] <;> omega
  rw [w1, w2]
  by_cases l2 : s.length - E.1.length + E.2.1.length > 8
  ·have : (s.length : Int) - (E.1.length : Int) + (E.2.1.length : Int) > 8 := by omega
   rw [decide_eq_true this, decide_eq_true l2]
   rfl
  have l2' : ¬ (s.length : Int) - (E.1.length : Int) + (E.2.1.length : Int) > 8 := by omega
  rw [decide_eq_false l2, decide_eq_false l2', cond_false, cond_false]
  simp only [Option.bind_some]
  exact fits_loop hs hsl (f := f) (pc := pc) (nx := nx) (T := E.1) (Gv := E.2.1) (by omega) hE1 (by omega) hF
 ·by_cases s0 : s.length = 0
  ·have g1 : decide ((s.length : Int) > 0) = false := decide_eq_false (by omega)
   have g2 : ((s.length : Int) == 0) = true := by rw [s0]; rfl
   rw [g1, g2, decide_eq_true s0]
   rfl
  ·have g1 : decide ((s.length : Int) > 0) = true := decide_eq_true (by omega)
   have g2 : ((s.length : Int) == 0) = false := beq_eq_false_iff_ne.2 (by omega)
   have hw1 := wpred14 (show 0 < s.length by omega) hsl
   rw [g1, g2, decide_eq_false s0, hw1]
   have hlt : s.length - 1 < s.length := by omega
   simp only [cond_true, cond_false, Bool.false_or, dge, dlt hlt, Bool.and_self, Int.toNat_natCast, Option.bind_some]
   have a1 : ¬ (([((0 : Int), ((0 : Int), ()))] : List Tp).length : Int) > (s.length : Int) := by
    show ¬ ((1 : Nat) : Int) > _
    omega
   have a2 : IntKind.i64.wrap ((s.length : Int) - (([((0 : Int), ((0 : Int), ()))] : List Tp).length : Int)) = (s.length : Int) - 1 := by
    show IntKind.i64.wrap ((s.length : Int) - ((1 : Nat) : Int)) = _
    rw [w64'] <;> omega
   have a3 : IntKind.i64.wrap ((s.length : Int) - 1 + (([s.getD (s.length - 1) zTp, s.getD (s.length - 1) zTp] : List Tp).length : Int)) = (s.length : Int) + 1 := by
    show IntKind.i64.wrap ((s.length : Int) - 1 + ((2 : Nat) : Int)) = _
    rw [w64'] <;> omega
   rw [decide_eq_false a1, a2, a3]
   by_cases s8 : s.length ≥ 8
   ·have : (s.length : Int) + 1 > 8 := by omega
    rw [decide_eq_true this, decide_eq_true s8]
    rfl
   ·have : ¬ (s.length : Int) + 1 > 8 := by omega
    rw [decide_eq_false this, decide_eq_false s8]
    simp only [cond_false, Option.bind_some]
    have hfl := fits_loop hs hsl (f := f) (pc := pc) (nx := nx) (T := [zTp]) (Gv := [s.getD (s.length - 1) zTp, s.getD (s.length - 1) zTp]) (F := F) (by simp; omega) (by simp) (by simp) hF
    refine hfl.trans ?_
    have hall : ((s.drop (s.length - [zTp].length)).zip [zTp]).all (fun p => ffits m (insOf m f pc).1 p.1 p.2) = true := by
     rw [List.all_eq_true]
     rintro ⟨x, y⟩ hxy
     have := (List.of_mem_zip hxy).2
     rw [List.mem_singleton] at this
     subst this
     rfl
    rw [hall]
    have hd : s.drop (s.length - 1) = [s.getD (s.length - 1) zTp] := by
     rw [List.drop_eq_getElem_cons hlt, List.drop_of_length_le (by omega)]
     simp [hlt]
    simp only [cond_true, List.length_cons, List.length_nil, Nat.zero_add]
    rw [hd]
    have hs' : s = s.take (s.length - 1) ++ [s.getD (s.length - 1) zTp] := by
     rw [← hd, List.take_append_drop]
    rw [show s.take (s.length - 1) ++ [s.getD (s.length - 1) zTp, s.getD (s.length - 1) zTp] = (s.take (s.length - 1) ++ [s.getD (s.length - 1) zTp]) ++ [s.getD (s.length - 1) zTp] by simp, ← hs']
theorem r8step_ok (m : Im) (f pc : Int) (s : List Tp) (r) (h : r8step m f pc s = some r) : ∃ k, r8stepN k m f pc s = some r := by
 unfold r8step at h
 cases hb : saneP m && okL s <;> simp only [hb, cond_true, cond_false] at h
 ·cases h
 injection h with h
 subst h
 simp only [Bool.and_eq_true] at hb
 obtain ⟨hs, hsl⟩ := hb
 have hsl := okL_lt hsl
 obtain ⟨F, hF⟩ : ∃ F : Nat, 100 < F := ⟨101, by omega⟩
 refine ⟨F, ?_⟩
 have fold : ∀ g : Int, m.2.2.2.1.getD g.toNat zMt = mtOf m g := fun _ => rfl
 have fold2 : (mtOf m f).2.2.2.1.getD pc.toNat zIns = insOf m f pc := rfl
 have fold3 : (mtOf m f).2.2.2.1.length = codeN m f := rfl
 cases hf : inM m f
 ·unfold r8stepN stepB
  rw [hf]
  have : ¬ (0 ≤ f ∧ f < (m.2.2.2.1.length : Int)) := fun hh => by rw [inM_iff.2 hh] at hf; cases hf
  by_cases h0 : f < 0
  ·rw [decide_eq_true h0]; rfl
  ·have h1 : f ≥ (m.2.2.2.1.length : Int) := by omega
   rw [decide_eq_false h0, decide_eq_true h1]; rfl
 obtain ⟨f0, f1⟩ := inM_iff.1 hf
 have f2 : ¬ f < 0 := by omega
 have f3 : ¬ f ≥ (m.2.2.2.1.length : Int) := by omega
 have hc := sane_code hs hf
 by_cases p0 : pc < 0
 ·have : ¬ 0 ≤ pc := by omega
  unfold r8stepN stepB sin
  rw [decide_eq_false f2, decide_eq_false f3, decide_eq_true p0, hf, decide_eq_false this]; rfl
 have p0' : 0 ≤ pc := by omega
 by_cases p1 : pc ≥ (codeN m f : Int)
 ·have : ¬ pc < (codeN m f : Int) := by omega
  unfold r8stepN stepB sin
  simp only [fold, fold3]
  rw [decide_eq_false f2, decide_eq_false f3, decide_eq_false p0, decide_eq_true f0, decide_eq_true f1, decide_eq_true p1, hf, decide_eq_false this, decide_eq_true p0']; rfl
 have p1' : pc < (codeN m f : Int) := by omega
 have hp : sin pc (codeN m f : Int) = true := by simp [sin, p0', p1']
 rw [← tail8_at hs hsl hf hp hF]
 have hi := sane_instr hs hf hp
 have hroom : ∀ x : Int, decide (([IntKind.i64.wrap (pc + 1)] : List Int).length + [x].length < rowMax) = true := fun x => decide_eq_true (by simp only [List.length_cons, List.length_nil, rowMax]; omega)
 have hend : ∀ nx : List Int, _ = tail8 F m f pc s nx := fun nx => by
  unfold tail8
  simp only [fold, fold2, fold3]
  rw [decide_eq_true f0, decide_eq_true f1]
 have hred : ∀ nx : List Int, nx = fnexts (insOf m f pc) pc → r8stepN F m f pc s = tail8 F m f pc s nx := by
  intro nx hnx
  unfold r8stepN
  simp only [fold, fold2, fold3]
  rw [decide_eq_false f2, decide_eq_false f3, decide_eq_false p0, decide_eq_true f0, decide_eq_true f1, decide_eq_false p1, decide_eq_true p0', decide_eq_true p1']
  simp only [cond_true, cond_false, Bool.and_self]
  unfold fnexts at hnx
  cases h18 : (insOf m f pc).1 == 18
  ·rw [h18] at hnx
   simp only [cond_false, Option.bind_some] at hnx ⊢
   cases h19 : (insOf m f pc).1 == 19
   ·rw [h19] at hnx
    simp only [cond_false, Option.bind_some] at hnx ⊢
    cases h33 : (insOf m f pc).1 == 33
    ·rw [h33] at hnx
     simp only [cond_false, Option.bind_some] at hnx ⊢
     rw [hnx]
     exact hend _
    ·rw [h33] at hnx
     simp only [cond_true, Option.bind_some] at hnx ⊢
     rw [hnx]
     exact hend _
   ·rw [h19] at hnx
    have h33 : ((insOf m f pc).1 == 33) = false := by
     have := eq_of_beq h19
     rw [this]; rfl
    simp only [cond_true, hroom, Option.bind_some, h33, cond_false] at hnx ⊢
    rw [hnx]
    exact hend _
  ·rw [h18] at hnx
   have h19 : ((insOf m f pc).1 == 19) = false := by
    have := eq_of_beq h18
    rw [this]; rfl
   have h33 : ((insOf m f pc).1 == 33) = false := by
    have := eq_of_beq h18
    rw [this]; rfl
   simp only [cond_true, Option.bind_some, h19, h33, cond_false] at hnx ⊢
   rw [hnx]
   exact hend _
 exact hred _ rfl
end Go.Pli

namespace Go.Pli
open Go Go.PM
def Len8 (N : Nat) (h : List Sh) : Prop := h.length = N ∧ ∀ s ∈ h, s.2.1.length ≤ 8
theorem len8_get {N : Nat} {h : List Sh} (hh : Len8 N h) (k : Nat) : (h.getD k zSh).2.1.length ≤ 8 := by
 by_cases hk : k < h.length
 ·rw [getD_some (List.getElem?_eq_getElem hk)]; exact hh.2 _ (List.getElem_mem hk)
 ·rw [getD_out (by omega)]; exact Nat.zero_le _
theorem merge_len {l : List Cl} {o : Sh} {s : List Tp} (ho : o.2.1.length ≤ 8) (hs : s.length ≤ 8) : (mergeB l o s).1.2.1.length ≤ 8 := by
 unfold mergeB
 cases !o.1 <;> simp only [cond_true, cond_false]
 ·cases h2 : decide (o.2.1.length ≠ s.length) <;> simp only [cond_true, cond_false]
  ·have hlen : o.2.1.length = s.length := by simpa using h2
   cases (mergeO l o.2.1 s).any fun t => t.1 == 0 <;> simp only [cond_true, cond_false]
   ·rw [mergeO_len l hlen]; exact hs
   ·exact ho
  ·exact ho
 ·exact hs
theorem len8_set {N : Nat} {h : List Sh} (hh : Len8 N h) (k : Nat) {s : Sh} (hs : s.2.1.length ≤ 8) : Len8 N (h.set k s) :=
 ⟨by rw [List.length_set]; exact hh.1, fun x hx => by
  rcases List.mem_or_eq_of_mem_set hx with hx | rfl
  ·exact hh.2 x hx
  ·exact hs⟩
theorem flowE_len {l : List Cl} {a : List Tp} (ha : a.length ≤ 8) {N : Nat} : ∀ (ts : List Int) (t : Bool) (h : List Sh) (r), Len8 N h → flowE l a ts t h = some r → Len8 N r.2
 | [], t, h, r, hh, he => by
  unfold flowE at he
  injection he with he
  subst he
  exact hh
 | to :: ts, t, h, r, hh, he => by
  unfold flowE at he
  cases h1 : (mergeB l (h.getD to.toNat zSh) a).2.2.1 <;> simp only [h1, Bool.not_true, Bool.not_false, cond_true, cond_false] at he
  ·cases he
  ·cases h2 : (mergeB l (h.getD to.toNat zSh) a).2.1 <;> simp only [h2, cond_true, cond_false] at he
   ·exact flowE_len ha ts _ _ _ hh he
   ·exact flowE_len ha ts _ _ _ (len8_set hh _ (merge_len (len8_get hh _) ha)) he
theorem join_row {m : Im} (hok : okL m.1 = true) {s6 : Bool × Int × List Sh × Unit} {rec7 : (Bool × Int × List Sh × Unit) → Option (List Sh × Bool × Unit)} {r5 : St4} {to : Int} {k : Nat} (hto : r5.2.1.getD s6.2.1.toNat 0 = to) (hk : s6.2.1 = (k : Int)) (hk2 : k < 1000) (t0 : 0 ≤ to) (t1 : to < (s6.2.2.1.length : Int)) (ha : r5.1.length ≤ 8) (hl : (s6.2.2.1.getD to.toNat zSh).2.1.length = r5.1.length) {F : Nat} (hF : 100 < F) :
  loopF (r8shapesL1 m s6 rec7 r5) F (([] : List Tp), ((0 : Int), ())) =
   bif (mergeO m.1 (s6.2.2.1.getD to.toNat zSh).2.1 r5.1).any fun t => t.1 == 0 then some ([], false, ())
   else bif !(mergeO m.1 (s6.2.2.1.getD to.toNat zSh).2.1 r5.1 == (s6.2.2.1.getD to.toNat zSh).2.1) then rec7 (true, ((k + 1 : Nat) : Int), s6.2.2.1.set to.toNat (true, mergeO m.1 (s6.2.2.1.getD to.toNat zSh).2.1 r5.1, ()), ())
   else rec7 (s6.1, ((k + 1 : Nat) : Int), s6.2.2.1, ()) := by
 generalize hO : (s6.2.2.1.getD to.toNat zSh).2.1 = O at hl ⊢
 have hto' : r5.2.1.getD k 0 = to := by rw [hk] at hto; simpa using hto
 have hml := mergeO_len m.1 hl
 have hw : IntKind.i64.wrap ((k : Int) + 1) = ((k + 1 : Nat) : Int) := by rw [w64'] <;> omega
 have key := loop_all (L := r8shapesL1 m s6 rec7 r5) (xs := mergeO m.1 O r5.1) (st := fun j => ((mergeO m.1 O r5.1).take j, (j : Int), ())) (p := fun x => !(x.1 == 0)) (ex := some ([], false, ()))
  (fin := bif !(mergeO m.1 O r5.1 == O) then rec7 (true, ((k + 1 : Nat) : Int), s6.2.2.1.set to.toNat (true, mergeO m.1 O r5.1, ()), ()) else rec7 (s6.1, ((k + 1 : Nat) : Int), s6.2.2.1, ()))
  (fun j x rec hj hjl => by
   have j1 : j < r5.1.length := by omega
   have j2 : j < O.length := by omega
   have hx := mergeO_get m.1 j2 j1
   rw [hj] at hx
   have hx := Option.some.inj hx
   have hrj : rjoin m.1 (O.getD j zTp) (r5.1.getD j zTp) = some (x, ()) := by unfold rjoin; rw [hok, hx]; rfl
   have hroom : decide (((mergeO m.1 O r5.1).take j).length + (0 + 1) < rowMax) = true := room_ok (by rw [List.length_take]; omega)
   have htk : (mergeO m.1 O r5.1).take (j + 1) = (mergeO m.1 O r5.1).take j ++ [x] := by rw [List.take_add_one, hj]; rfl
   rw [r8shapesL1]
   simp only [hk, Int.toNat_natCast, hto', hO, t0, t1, dlt j1, dlt j2, dge, decide_true, Bool.and_self, cond_true, hrj, Option.bind_some, List.length_cons, List.length_nil, hroom, wsucc j1 (show _ ≤ lenMax by simp only [lenMax]; omega), htk]
   cases x.1 == 0 <;> rfl)
  (fun rec => by
   rw [r8shapesL1]
   simp only [hml, dnlt, cond_false, hk, Int.toNat_natCast, hto', hO, t0, t1, decide_true, Bool.and_self, cond_true, rtypes, hw]
   rw [← hml, List.take_length]) F (by omega)
 rw [List.take_zero] at key
 refine key.trans ?_
 rw [← List.not_any_eq_all_not]
 cases (mergeO m.1 O r5.1).any fun t => t.1 == 0 <;> rfl
theorem flowE_loop {m : Im} (hok : okL m.1 = true) {s3 : Bool × Int × List Sh × Unit} {rec4 : (Bool × Int × List Sh × Unit) → Option (List Sh × Bool × Unit)} {r5 : St4} (ha : r5.1.length ≤ 8) {N : Nat} {F0 : Nat} (hF0 : 100 < F0) (hnl : r5.2.1.length ≤ 2) (hto : ∀ to ∈ r5.2.1, 0 ≤ to ∧ to < (N : Int)) :
  ∀ (l pre : List Int) (t : Bool) (h : List Sh) (F : Nat), r5.2.1 = pre ++ l → l.length < F → Len8 N h → loopF (r8shapesL2 m F0 s3 rec4 r5) F (t, (pre.length : Int), h, ()) =
   match flowE m.1 r5.1 l t h with
   | none => some ([], false, ())
   | some r => rec4 (r.1, IntKind.i64.wrap (s3.2.1 - 1), r.2, ())
 | [], pre, t, h, F, he, hF, hh => by
  obtain ⟨F, rfl⟩ : ∃ n, F = n + 1 := ⟨F - 1, by simp at hF; omega⟩
  rw [List.append_nil] at he
  rw [loopF_step, r8shapesL2, he]
  simp only [dnlt, cond_false, flowE]
 | to :: l, pre, t, h, F, he, hF, hh => by
  obtain ⟨F, rfl⟩ : ∃ n, F = n + 1 := ⟨F - 1, by simp at hF; omega⟩
  have hk : pre.length < r5.2.1.length := by rw [he, List.length_append]; simp
  have hget : r5.2.1.getD pre.length 0 = to := by rw [he]; simp
  obtain ⟨t0, t1⟩ := hto to (by rw [he]; simp)
  have t2 : to < (h.length : Int) := by rw [hh.1]; exact t1
  have hw := wsucc hk (show _ ≤ lenMax by simp only [lenMax]; omega)
  have ih := fun t' h' hh' => flowE_loop hok (s3 := s3) (rec4 := rec4) ha hF0 hnl hto l (pre ++ [to]) t' h' F (by rw [he, List.append_assoc]; rfl) (by simp only [List.length_cons] at hF; omega) hh'
  simp only [List.length_append, List.length_cons, List.length_nil, Nat.zero_add] at ih
  have hset : ∀ s : Sh, s.2.1.length ≤ 8 → Len8 N (h.set to.toNat s) := fun s hs => len8_set hh _ hs
  rw [loopF_step, r8shapesL2]
  simp only [dlt hk, dge, Bool.and_self, cond_true, Int.toNat_natCast, hget, t0, t2, decide_true, hw]
  unfold flowE mergeB
  cases h1 : (h.getD to.toNat zSh).1 <;> simp only [Bool.not_true, Bool.not_false, cond_true, cond_false]
  ·exact ih _ _ (hset _ ha)
  ·by_cases hl : (h.getD to.toNat zSh).2.1.length = r5.1.length
   ·have e1 : (((h.getD to.toNat zSh).2.1.length : Int) != (r5.1.length : Int)) = false := by rw [hl]; simp
    have e2 : decide ((h.getD to.toNat zSh).2.1.length ≠ r5.1.length) = false := decide_eq_false fun hh => hh hl
    rw [e1, e2, cond_false, cond_false]
    have := join_row hok (s6 := (t, (pre.length : Int), h, ())) (rec7 := loopF (r8shapesL2 m F0 s3 rec4 r5) F) (r5 := r5) (to := to) (k := pre.length) (by simpa using hget) rfl (by omega) t0 t2 ha hl hF0
    rw [this]
    cases (mergeO m.1 (h.getD to.toNat zSh).2.1 r5.1).any fun t => t.1 == 0 <;> simp only [Bool.not_true, Bool.not_false, cond_true, cond_false]
    cases mergeO m.1 (h.getD to.toNat zSh).2.1 r5.1 == (h.getD to.toNat zSh).2.1 <;> simp only [Bool.not_true, Bool.not_false, cond_true, cond_false]
    ·exact ih _ _ (hset _ (by rw [mergeO_len m.1 hl]; exact ha))
    ·exact ih _ _ hh
   ·have e1 : (((h.getD to.toNat zSh).2.1.length : Int) != (r5.1.length : Int)) = true := bne_iff_ne.2 (by omega)
    have e2 : decide ((h.getD to.toNat zSh).2.1.length ≠ r5.1.length) = true := decide_eq_true hl
    rw [e1, e2, cond_true, cond_true]
    rfl
theorem flowP_len {m : Im} (hs : saneP m = true) {f : Int} {N : Nat} {pc : Nat} {t : Bool} {h : List Sh} {r} (hh : Len8 N h) (he : flowP m f pc t h = some r) : Len8 N r.2 := by
 unfold flowP at he
 cases h1 : (h.getD pc zSh).1 <;> simp only [h1, Bool.not_true, Bool.not_false, cond_true, cond_false] at he
 ·injection he with he; subst he; exact hh
 ·cases h2 : (stepB m f (pc : Int) (h.getD pc zSh).2.1).2.2.1 != 0 <;> simp only [h2, cond_true, cond_false] at he
  ·obtain ⟨-, -, h8, -⟩ := step_facts hs (f := f) (pc := (pc : Int)) (s := (h.getD pc zSh).2.1) (by simpa using h2)
   exact flowE_len h8 _ _ _ _ hh he
  ·cases he
theorem flowR_len {m : Im} (hs : saneP m = true) {f : Int} {N : Nat} : ∀ (n : Nat) (t : Bool) (h : List Sh) (r), Len8 N h → flowR m f n t h = some r → Len8 N r.2
 | 0, t, h, r, hh, he => by
  unfold flowR at he
  injection he with he; subst he; exact hh
 | n + 1, t, h, r, hh, he => by
  unfold flowR at he
  cases hp : flowP m f n t h with
  | none => rw [hp] at he; cases he
  | some q =>
   rw [hp] at he
   exact flowR_len hs n _ _ _ (flowP_len hs hh hp) he
theorem round_loop {m : Im} (hs : saneP m = true) {f : Int} (hf : inM m f = true) {F0 : Nat} (hF0 : 1000 < F0) {s1 : Int × List Sh × Unit} {rec2 : (Int × List Sh × Unit) → Option (List Sh × Bool × Unit)} :
  ∀ (n : Nat) (t : Bool) (h : List Sh) (F : Nat), n ≤ codeN m f → n < F → Len8 (codeN m f) h → loopF (r8shapesL3 m f F0 s1 rec2) F (t, (n : Int) - 1, h, ()) =
   match flowR m f n t h with
   | none => some ([], false, ())
   | some r => bif !r.1 then some (r.2, true, ()) else rec2 (IntKind.i64.wrap (s1.1 + 1), r.2, ())
 | 0, t, h, F, hn, hF, hh => by
  obtain ⟨F, rfl⟩ : ∃ n, F = n + 1 := ⟨F - 1, by omega⟩
  rw [loopF_step, r8shapesL3]
  have : ¬ (((0 : Nat) : Int) - 1 ≥ 0) := by omega
  simp only [this, decide_false, cond_false, flowR]
 | n + 1, t, h, F, hn, hF, hh => by
  obtain ⟨F, rfl⟩ : ∃ n, F = n + 1 := ⟨F - 1, by omega⟩
  have hok : okL m.1 = true := okL_of (by have := (fit_of (saneP_of hs).1).classes; omega)
  have hc := sane_code hs hf
  have e : (((n + 1 : Nat) : Int) - 1) = (n : Int) := by omega
  have g0 : decide ((n : Int) ≥ 0) = true := decide_eq_true (by omega)
  have hnl : n < h.length := by rw [hh.1]; omega
  have hw : IntKind.i64.wrap ((n : Int) - 1) = (n : Int) - 1 := by rw [w64'] <;> omega
  have h8 := len8_get hh n
  have hst : r8step m f (n : Int) (h.getD n zSh).2.1 = some (stepB m f (n : Int) (h.getD n zSh).2.1) := by unfold r8step; rw [hs, okL_of (by omega)]; rfl
  have ih := fun t' h' hh' => round_loop hs hf hF0 (s1 := s1) (rec2 := rec2) n t' h' F (by omega) (by omega) hh'
  rw [loopF_step, r8shapesL3, e]
  simp only [g0, dge, dlt hnl, Bool.and_self, cond_true, Int.toNat_natCast, hw, hst, Option.bind_some]
  unfold flowR
  have hfl := fun q => flowP_len hs (f := f) (pc := n) (t := t) (r := q) hh
  unfold flowP at hfl ⊢
  cases h1 : (h.getD n zSh).1 <;> simp only [h1, Bool.not_true, Bool.not_false, cond_true, cond_false] at hfl ⊢
  ·exact ih _ _ hh
  ·cases h2 : (stepB m f (n : Int) (h.getD n zSh).2.1).2.2.1 != 0 <;> simp only [h2, cond_true, cond_false] at hfl ⊢
   ·obtain ⟨-, -, h8, hto⟩ := step_facts hs (f := f) (pc := (n : Int)) (s := (h.getD n zSh).2.1) (by simpa using h2)
    have := flowE_loop hok (s3 := (t, (n : Int), h, ())) (rec4 := loopF (r8shapesL3 m f F0 s1 rec2) F) (r5 := stepB m f (n : Int) (h.getD n zSh).2.1) h8 (N := codeN m f) (F0 := F0) (by omega) (step_two ..) hto (stepB m f (n : Int) (h.getD n zSh).2.1).2.1 [] t h F0 rfl (by have : (stepB m f (n : Int) (h.getD n zSh).2.1).2.1.length ≤ 2 := step_two ..; omega) hh
    simp only [List.length_nil] at this
    refine this.trans ?_
    cases hE : flowE m.1 (stepB m f (n : Int) (h.getD n zSh).2.1).1 (stepB m f (n : Int) (h.getD n zSh).2.1).2.1 t h with
    | none => rfl
    | some q =>
     simp only [hw, Option.bind_some]
     exact ih _ _ (hfl q hE)
   ·rfl
theorem rounds_loop {m : Im} (hs : saneP m = true) {f : Int} (hf : inM m f = true) {F0 : Nat} (hF0 : 1000 < F0) : ∀ (n k : Nat) (h : List Sh) (F : Nat), k + n = 4000 → n < F → Len8 (codeN m f) h → loopF (r8shapesL4 m f F0) F ((k : Int), h, ()) = some (roundsM m f n h)
 | 0, k, h, F, hk, hF, hh => by
  obtain ⟨F, rfl⟩ : ∃ n, F = n + 1 := ⟨F - 1, by omega⟩
  have : ¬ ((k : Int) < 4000) := by omega
  rw [loopF_step, r8shapesL4]
  simp only [this, decide_false, cond_false]
  rfl
 | n + 1, k, h, F, hk, hF, hh => by
  obtain ⟨F, rfl⟩ : ∃ n, F = n + 1 := ⟨F - 1, by omega⟩
  have hlt : (k : Int) < 4000 := by omega
  have hc := sane_code hs hf
  have fold : ∀ g : Int, m.2.2.2.1.getD g.toNat zMt = mtOf m g := fun _ => rfl
  have fold3 : (mtOf m f).2.2.2.1.length = codeN m f := rfl
  have hw : IntKind.i64.wrap ((codeN m f : Int) - 1) = (codeN m f : Int) - 1 := by rw [w64'] <;> omega
  have hw2 : IntKind.i64.wrap ((k : Int) + 1) = ((k + 1 : Nat) : Int) := by rw [w64'] <;> omega
  rw [loopF_step, r8shapesL4]
  simp only [hlt, decide_true, cond_true, fold, fold3, hw]
  refine (round_loop hs hf hF0 (codeN m f) false h F0 (Nat.le_refl _) (by omega) hh).trans ?_
  unfold roundsM
  cases hr : flowR m f (codeN m f) false h with
  | none => rfl
  | some r =>
   have hl := flowR_len hs _ _ _ _ hh hr
   simp only [hw2]
   cases r.1 <;> simp only [Bool.not_true, Bool.not_false, cond_true, cond_false]
   exact rounds_loop hs hf hF0 n (k + 1) r.2 F (by omega) (by omega) hl
theorem start_len (m : Im) (f : Int) : Len8 (codeN m f) (startH m f) := by
 unfold startH
 refine ⟨by simp, fun s hs => ?_⟩
 rcases List.mem_or_eq_of_mem_set hs with h | rfl
 ·rw [List.mem_replicate] at h; rw [h.2]; exact Nat.zero_le _
 ·exact Nat.zero_le _
theorem r8shapes_ok (m : Im) (f : Int) (r) (h : r8shapes m f = some r) : ∃ k, r8shapesN k m f = some r := by
 unfold r8shapes at h
 cases hb : saneP m && inM m f <;> simp only [hb, cond_true, cond_false] at h
 ·cases h
 injection h with h
 subst h
 simp only [Bool.and_eq_true] at hb
 obtain ⟨hs, hf⟩ := hb
 obtain ⟨f0, f1⟩ := inM_iff.1 hf
 have hc := sane_code hs hf
 obtain ⟨F, hF⟩ : ∃ F : Nat, 5000 < F := ⟨5001, by omega⟩
 refine ⟨F, ?_⟩
 have fold : ∀ g : Int, m.2.2.2.1.getD g.toNat zMt = mtOf m g := fun _ => rfl
 have fold3 : (mtOf m f).2.2.2.1.length = codeN m f := rfl
 have e0 : decide ((0 : Int) ≤ (codeN m f : Int)) = true := decide_eq_true (by omega)
 have e1 : decide ((codeN m f : Int) < (rowMax : Int)) = true := decide_eq_true (by simp only [rowMax]; omega)
 have e2 : ((codeN m f : Int) == 0) = false := beq_eq_false_iff_ne.2 (by omega)
 have e3 : decide ((0 : Int) < (codeN m f : Int)) = true := decide_eq_true (by omega)
 have e4 : decide ((codeN m f : Int) ≤ (codeN m f : Int)) = true := decide_eq_true (by omega)
 have e5 : ((List.replicate (codeN m f) zSh).getD 0 zSh).2 = ([], ()) := by
  obtain ⟨n, hn⟩ : ∃ n, codeN m f = n + 1 := ⟨codeN m f - 1, by omega⟩
  rw [hn]; rfl
 unfold r8shapesN
 simp only [fold, fold3, f0, f1, decide_true, Bool.and_self, cond_true, cond_false, e0, e1, e2, e3, e4, e5, Int.toNat_natCast, List.length_replicate]
 exact rounds_loop hs hf (by omega) 4000 0 _ F (by omega) (by omega) (start_len m f)
theorem all_loop {m : Im} (hs : saneP m = true) : ∀ (j k : Nat) (out : List (List Sh)) (F : Nat), k + j = m.2.2.2.1.length → j < F → out.length ≤ k → loopF (r8allL1 m) F (out, (k : Int), ()) = some (allM m ((List.range' k j).map fun n : Nat => (n : Int)) out)
 | 0, k, out, F, hk, hF, _ => by
  obtain ⟨F, rfl⟩ : ∃ n, F = n + 1 := ⟨F - 1, by omega⟩
  have : k = m.2.2.2.1.length := by omega
  subst this
  rw [loopF_step, r8allL1]
  simp only [dnlt, cond_false]
  rfl
 | j + 1, k, out, F, hk, hF, ho => by
  obtain ⟨F, rfl⟩ : ∃ n, F = n + 1 := ⟨F - 1, by omega⟩
  have h12 := (fit_of (saneP_of hs).1).methods
  have hlt : k < m.2.2.2.1.length := by omega
  have hin : inM m (k : Int) = true := inM_iff.2 ⟨by omega, by omega⟩
  have hsh : r8shapes m (k : Int) = some (roundsM m (k : Int) 4000 (startH m (k : Int))) := by unfold r8shapes; rw [hs, hin]; rfl
  rw [loopF_step, r8allL1]
  rw [List.range'_succ, List.map_cons, allM]
  simp only [dlt hlt, cond_true, hsh, Option.bind_some]
  cases (roundsM m (k : Int) 4000 (startH m (k : Int))).2.1 <;> simp only [Bool.not_true, Bool.not_false, cond_true, cond_false]
  simp only [List.length_cons, List.length_nil, room_ok (show out.length + (0 + 1) < 549755813888 by omega), cond_true, wsucc hlt (show _ ≤ lenMax by simp only [lenMax]; omega)]
  exact all_loop hs j (k + 1) _ F (by omega) (by omega) (by simp; omega)
theorem r8all_ok (m : Im) (r) (h : r8all m = some r) : ∃ k, r8allN k m = some r := by
 unfold r8all at h
 cases hs : saneP m <;> simp only [hs, cond_true, cond_false] at h
 ·cases h
 injection h with h
 subst h
 have h12 := (fit_of (saneP_of hs).1).methods
 refine ⟨m.2.2.2.1.length + 1, ?_⟩
 unfold r8allN
 rw [show ints m.2.2.2.1.length = (List.range' 0 m.2.2.2.1.length).map fun n : Nat => (n : Int) by rw [← List.range_eq_range']; rfl]
 exact all_loop hs m.2.2.2.1.length 0 [] _ (by omega) (by omega) (by simp)
end Go.Pli
