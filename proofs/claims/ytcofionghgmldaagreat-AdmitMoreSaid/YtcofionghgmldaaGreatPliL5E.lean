/- Sane, by the reference: what the functions come to. -/
import Derived.Test.YtcofionghgmldaaGreatPliL5A
namespace Go.Pli
open Go Go.PM
theorem chain_mem {l : List Cl} {x : Int} : ∀ (n : Nat) (c : Int), c.toNat < n → x ∈ chain l c → 0 ≤ x ∧ x ≤ c
  | 0, _, h, _ => by omega
  | n + 1, c, h, hx => by
    by_cases hc : c < 0
    · rw [chain_neg hc] at hx; simp at hx
    · rw [chain_step (by omega)] at hx
      have hlt := kup_lt (l := l) (c := c) (by omega)
      rcases List.mem_cons.1 hx with rfl | hx
      · omega
      · by_cases hk : kup l c < 0
        · rw [chain_neg hk] at hx; simp at hx
        · have := chain_mem n (kup l c) (by omega) hx
          omega
theorem raboveB_mem {l : List Cl} {c x : Int} (h : x ∈ raboveB l c) : 0 ≤ x ∧ x < (l.length : Int) := by
  unfold raboveB at h
  by_cases hc : c < (l.length : Int)
  · simp only [hc, decide_true, cond_true] at h
    have := chain_mem (c.toNat + 1) c (by omega) h
    omega
  · simp [hc] at h
theorem raboveB_len {l : List Cl} {c : Int} : (raboveB l c).length ≤ l.length + 1 := by
  unfold raboveB
  by_cases hc : c < (l.length : Int)
  · simp only [hc, decide_true, cond_true]
    have := chain_len l (c.toNat + 1) c (by omega)
    omega
  · simp [hc]
theorem fields_loop (m : Im) (hf : Fit m) (rs : List Int) (hr : ∀ x ∈ rs, 0 ≤ x ∧ x < (m.1.length : Int)) : ∀ (k F : Nat) (out : List Tp), k ≤ rs.length → k < 100 → k < F → out.length + 8 * k < 10000 →
    loopF (r5fieldsL1 m (rs, ())) F (out, (k : Int) - 1, ()) = some (out ++ (((rs.take k).reverse).map fun s => (clOf m s).2.1).flatten, ())
  | 0, F, out, _, _, hF, _ => by
    obtain ⟨F, rfl⟩ : ∃ n, F = n + 1 := ⟨F - 1, by omega⟩
    rw [loopF_step, r5fieldsL1]
    simp
  | k + 1, F, out, hk, hk100, hF, ho => by
    obtain ⟨F, rfl⟩ : ∃ n, F = n + 1 := ⟨F - 1, by omega⟩
    have hlt : k < rs.length := by omega
    have hg := List.getElem?_eq_getElem hlt
    have hmem : rs[k] ∈ rs := List.getElem_mem hlt
    obtain ⟨x0, x1⟩ := hr _ hmem
    have hcls := (cls_of (hf.cls _ (clOf_mem x0 x1))).2.1.1
    have hd : m.1.getD (rs[k]).toNat zCl = clOf m rs[k] := rfl
    have e : (((k + 1 : Nat) : Int) - 1) = (k : Int) := by omega
    rw [loopF_step, r5fieldsL1, e]
    have hroom : out.length + (clOf m rs[k]).2.1.length < rowMax := by simp only [rowMax]; omega
    have hge : decide ((k : Int) ≥ 0) = true := dge0 k
    simp only [hge, dlt hlt, Bool.and_self, cond_true, Int.toNat_natCast, getD_some hg, x0, x1, hd, hroom, decide_true]
    rw [w64' (by omega) (by omega), fields_loop m hf rs hr k F _ (by omega) (by omega) (by omega) (by simp only [List.length_append]; omega)]
    rw [List.take_succ_eq_append_getElem hlt]
    simp only [List.reverse_append, List.reverse_cons, List.reverse_nil, List.nil_append, List.cons_append, List.map_cons, List.flatten_cons, List.append_assoc]
theorem r5fields_ok (m : Im) (c : Int) (r) (h : r5fields m c = some r) : ∃ k, r5fieldsN k m c = some r := by
  unfold r5fields at h
  cases hi : ifits m <;> simp only [hi, cond_true, cond_false] at h
  · cases h
  injection h with h
  subst h
  have hf := fit_of hi
  have h8 := hf.classes
  have hok : okL m.1 = true := by unfold okL; simp; omega
  have hlen := raboveB_len (l := m.1) (c := c)
  refine ⟨100, ?_⟩
  unfold r5fieldsN rabove
  rw [hok]
  simp only [cond_true, Option.bind_some]
  rw [w64' (by omega) (by omega), fields_loop m hf _ (fun x hx => raboveB_mem hx) (raboveB m.1 c).length 100 [] (by omega) (by omega) (by omega) (by simp; omega), List.take_length]
  simp
end Go.Pli

namespace Go.Pli
open Go Go.PM
theorem an_ok {α : Type} {l : List α} (h : l.length < 1000000) : decide (([] : List α).length + l.length < rowMax) = true := decide_eq_true (by simp [rowMax]; omega)
theorem anT_eq {l : List Tp} (h : l.length < 1000000) : anTN l = some (l, ()) := by unfold anTN cloneTN; rw [an_ok h]; rfl
theorem anJ_eq {l : List Int} (h : l.length < 1000000) : anJN l = some (l, ()) := by unfold anJN cloneJN; rw [an_ok h]; rfl
theorem anI_eq {l : List Int} (h : l.length < 1000000) : anIN l = some (l, ()) := by unfold anIN cloneIN; rw [an_ok h]; rfl
theorem anX_eq {l : List Ins} (h : l.length < 1000000) : anXN l = some (l, ()) := by unfold anXN cloneXN; rw [an_ok h]; rfl
theorem loop_map {α β σ R : Type} {L : σ → (σ → Option R) → Option R} {xs : List α} {f : α → β} {st : Nat → List β → σ} {fin : Option R}
    (h1 : ∀ (k : Nat) (x : α) (acc : List β) (rec), xs[k]? = some x → k < xs.length → acc.length = k → L (st k acc) rec = rec (st (k + 1) (acc ++ [f x])))
    (h2 : ∀ rec, L (st xs.length (xs.map f)) rec = fin) : ∀ F : Nat, xs.length < F → loopF L F (st 0 []) = fin := by
  have key : ∀ (l pre : List α) (F : Nat), xs = pre ++ l → l.length < F → loopF L F (st pre.length (pre.map f)) = fin := by
    intro l
    induction l with
    | nil =>
      intro pre F hx hF
      obtain ⟨F, rfl⟩ : ∃ n, F = n + 1 := ⟨F - 1, by simp at hF; omega⟩
      rw [List.append_nil] at hx
      subst hx
      rw [loopF_step, h2]
    | cons x l ih =>
      intro pre F hx hF
      obtain ⟨F, rfl⟩ : ∃ n, F = n + 1 := ⟨F - 1, by simp at hF; omega⟩
      have hk : xs[pre.length]? = some x := by rw [hx]; simp
      have hl : pre.length < xs.length := by rw [hx]; simp
      rw [loopF_step, h1 pre.length x _ _ hk hl (by simp)]
      have := ih (pre ++ [x]) F (by rw [hx]; simp) (by simp only [List.length_cons] at hF; omega)
      simpa using this
  intro F hF
  exact key xs [] F rfl hF
theorem icopy_ok (m : Im) (r) (h : icopy m = some r) : ∃ k, icopyN k m = some r := by
  unfold icopy at h
  cases hi : ifits m <;> simp only [hi, cond_true, cond_false] at h
  · cases h
  injection h with h
  subst h
  have hf := fit_of hi
  have h8 := hf.classes
  have h12 := hf.methods
  have h16 := hf.ints
  have hst := hf.statics
  have hent := hf.entries
  simp only [itypes, inums, Bool.and_eq_true, decide_eq_true_eq] at hst hent
  refine ⟨100, ?_⟩
  have k1 : loopF (icopyL1 m) 100 ((0 : Int), (m.1, m.2.1, m.2.2.1, ([] : List Mt), m.2.2.2.2.1, m.2.2.2.2.2), ()) = some (m, ()) := by
    refine loop_map (xs := m.2.2.2.1) (f := id) (st := fun k acc => ((k : Int), (m.1, m.2.1, m.2.2.1, acc, m.2.2.2.2.1, m.2.2.2.2.2), ())) (fun k x acc rec hk hlt hacc => ?_) (fun rec => ?_) 100 (by omega)
    · rw [icopyL1]
      obtain ⟨⟨x1, _⟩, ⟨x2, _⟩, _, ⟨x4, _⟩, _, _, ⟨x7, _⟩⟩ := mth_of (hf.mts x (List.mem_of_getElem? hk))
      have hroom : ∀ y : Mt, decide (acc.length + [y].length < rowMax) = true := fun y => decide_eq_true (by simp [rowMax]; omega)
      simp only [dlt hlt, dge, Bool.and_self, cond_true, Int.toNat_natCast, getD_some hk, anT_eq (show x.1.length < 1000000 by omega), anT_eq (show x.2.1.length < 1000000 by omega), anX_eq (show x.2.2.2.1.length < 1000000 by omega),
        anI_eq (show x.2.2.2.2.2.2.1.length < 1000000 by omega), Option.bind_some, hroom, wsucc hlt (show m.2.2.2.1.length ≤ lenMax by simp only [lenMax]; omega)]
      rfl
    · rw [icopyL1]
      simp only [dnlt, cond_false, List.map_id]
      rfl
  have k2 : loopF (icopyL2 m 100) 100 ((0 : Int), (([] : List Cl), m.2.1, m.2.2.1, ([] : List Mt), m.2.2.2.2.1, m.2.2.2.2.2), ()) = some (m, ()) := by
    refine loop_map (xs := m.1) (f := id) (st := fun k acc => ((k : Int), (acc, m.2.1, m.2.2.1, ([] : List Mt), m.2.2.2.2.1, m.2.2.2.2.2), ())) (fun k x acc rec hk hlt hacc => ?_) (fun rec => ?_) 100 (by omega)
    · rw [icopyL2]
      obtain ⟨_, ⟨c3, _⟩, ⟨c5, _⟩⟩ := cls_of (hf.cls x (List.mem_of_getElem? hk))
      have hroom : ∀ y : Cl, decide (acc.length + [y].length < rowMax) = true := fun y => decide_eq_true (by simp [rowMax]; omega)
      simp only [dlt hlt, dge, Bool.and_self, cond_true, Int.toNat_natCast, getD_some hk, anT_eq (show x.2.1.length < 1000000 by omega), anI_eq (show x.2.2.1.length < 1000000 by omega), Option.bind_some, hroom,
        wsucc hlt (show m.1.length ≤ lenMax by simp only [lenMax]; omega)]
      rfl
    · rw [icopyL2]
      simp only [dnlt, cond_false, List.map_id]
      exact k1
  unfold icopyN
  rw [anT_eq (by omega), anJ_eq (by omega), anI_eq (by omega)]
  exact k2
end Go.Pli

namespace Go.Pli
open Go Go.PM
end Go.Pli

namespace Go.Pli
open Go Go.PM
theorem bind_congr {α β : Type} {o : Option α} {f g : α → Option β} (h : ∀ a, o = some a → f a = g a) : o.bind f = o.bind g := by
  cases o with
  | none => rfl
  | some a => exact h a rfl
theorem next_nonneg {r : Rd} {s} (h : next r = some s) : 0 ≤ s.1 := by
  unfold next at h
  cases hb : bytesB (r.1.take 5) <;> simp only [hb, cond_true, cond_false] at h
  · cases h
  · split at h
    · injection h with h; subst h; exact Int.natCast_nonneg _
    · injection h with h; subst h; exact Int.le_refl _
theorem getN_le {r : Rd} {n : Int} {s} (hn : n < 9223372036854775808) (h : getN r n = some s) : 0 ≤ s.1 ∧ s.1 ≤ max n 0 := by
  unfold getN at h
  cases hr : r.2.1 <;> simp only [hr, cond_true, cond_false] at h
  · cases hx : next r with
    | none => rw [hx] at h; cases h
    | some q =>
      rw [hx] at h
      simp only [Option.bind_some] at h
      have h0 := next_nonneg hx
      cases hq : q.2.1 <;> simp only [hq, Bool.not_true, Bool.not_false, cond_true, cond_false] at h
      · injection h with h; subst h; exact ⟨Int.le_refl _, by omega⟩
      · by_cases hneg : n < 0
        · simp only [hneg, decide_true, cond_true] at h
          injection h with h; subst h; exact ⟨Int.le_refl _, by omega⟩
        · simp only [hneg, decide_false, cond_false] at h
          have hw : IntKind.u64.wrap n = n := by rw [IntKind.wrap_u64]; omega
          rw [hw] at h
          by_cases hgt : q.1 > n
          · simp only [hgt, decide_true, cond_true] at h
            injection h with h; subst h; exact ⟨Int.le_refl _, by omega⟩
          · simp only [hgt, decide_false, cond_false] at h
            injection h with h; subst h
            have hw2 : IntKind.i64.wrap q.1 = q.1 := w64' (by omega) (by omega)
            simp only [hw2]
            omega
  · injection h with h; subst h; exact ⟨Int.le_refl _, by omega⟩
theorem loop_get {α σ R : Type} {L : σ → (σ → Option R) → Option R} {f : Rd → Option (α × Rd × Unit)} {n : Nat} {st : Nat → List α → Rd → σ} {fin : List α → Rd → Option R}
    (h1 : ∀ (k : Nat) (out : List α) (r : Rd) (rec), k < n → out.length = k → L (st k out r) rec = (f r).bind fun q => rec (st (k + 1) (out ++ [q.1]) q.2.1))
    (h2 : ∀ (out : List α) (r : Rd) (rec), L (st n out r) rec = fin out r) : ∀ (F : Nat) (r : Rd), n < F → loopF L F (st 0 [] r) = (repO f n r).bind fun p => fin p.1 p.2.1 := by
  have key : ∀ (d k F : Nat) (out : List α) (r : Rd), k + d = n → out.length = k → d < F → loopF L F (st k out r) = (repO f d r).bind fun p => fin (out ++ p.1) p.2.1 := by
    intro d
    induction d with
    | zero =>
      intro k F out r hk ho hF
      obtain ⟨F, rfl⟩ : ∃ n, F = n + 1 := ⟨F - 1, by omega⟩
      have : k = n := by omega
      subst this
      rw [loopF_step, h2]
      simp [repO]
    | succ d ih =>
      intro k F out r hk ho hF
      obtain ⟨F, rfl⟩ : ∃ n, F = n + 1 := ⟨F - 1, by omega⟩
      rw [loopF_step, h1 k out r _ (by omega) ho, repO, Option.bind_assoc]
      refine bind_congr fun q _ => ?_
      rw [ih (k + 1) F (out ++ [q.1]) q.2.1 (by omega) (by simp [ho]) (by omega), Option.bind_assoc]
      refine bind_congr fun p _ => ?_
      simp
  intro F r hF
  have := key n 0 F [] r (by omega) rfl hF
  simpa using this
theorem getType_ok (r : Rd) (s) (h : getType r = some s) : getTypeN r = some s := by
  rw [← h]; rfl
theorem klt {k : Nat} {a : Int} (h : k < a.toNat) : decide ((k : Int) < a) = true := decide_eq_true (by omega)
theorem knlt {a : Int} (h : 0 ≤ a) : decide (((a.toNat : Nat) : Int) < a) = false := decide_eq_false (by omega)
theorem room1 {α : Type} {out : List α} {x : α} (h : out.length < 100000) : decide (out.length + [x].length < rowMax) = true := decide_eq_true (by simp [rowMax]; omega)
theorem getTypes_eq (r : Rd) {m : Int} (hm : m ≤ 1000) : getTypesN 1001 r m = getTypes r m := by
  unfold getTypesN getTypes getRow
  rw [decide_eq_true hm]
  simp only [cond_true]
  refine bind_congr fun a ha => ?_
  obtain ⟨a0, a1⟩ := getN_le (by omega) ha
  have := loop_get (L := getTypesL1 a) (f := getType) (n := a.1.toNat) (st := fun k out r => (out, (k : Int), r, ())) (fin := fun out r => some (out, r, ())) (fun k out r rec hk ho => ?_) (fun out r rec => ?_) 1001 a.2.1 (by omega)
  · refine Eq.trans this ?_
    cases repO getType a.1.toNat a.2.1 <;> rfl
  · rw [getTypesL1]
    simp only [klt hk, cond_true]
    refine bind_congr fun q _ => ?_
    rw [room1 (by omega), wsucc (n := a.1.toNat) hk (by simp only [lenMax]; omega)]
    rfl
  · rw [getTypesL1]
    simp only [knlt a0, cond_false, idL]
theorem getTypes_ok (r : Rd) (m : Int) (s) (h : getTypes r m = some s) : ∃ k, getTypesN k r m = some s := by
  have hm : m ≤ 1000 := by
    unfold getTypes at h
    by_cases hm : m ≤ 1000
    · exact hm
    · rw [decide_eq_false hm] at h; cases h
  exact ⟨1001, by rw [getTypes_eq r hm]; exact h⟩
theorem getNums_eq (r : Rd) {c m : Int} (hc : c ≤ 1000) : getNumsN 1001 r c m = getNums r c m := by
  unfold getNumsN getNums getRow
  rw [decide_eq_true hc]
  simp only [cond_true]
  refine bind_congr fun a ha => ?_
  obtain ⟨a0, a1⟩ := getN_le (by omega) ha
  have := loop_get (L := getNumsL1 m a) (f := fun r => getN r m) (n := a.1.toNat) (st := fun k out r => (out, (k : Int), r, ())) (fin := fun out r => some (out, r, ())) (fun k out r rec hk ho => ?_) (fun out r rec => ?_) 1001 a.2.1 (by omega)
  · refine Eq.trans this ?_
    cases repO (fun r => getN r m) a.1.toNat a.2.1 <;> rfl
  · rw [getNumsL1]
    simp only [klt hk, cond_true]
    refine bind_congr fun q _ => ?_
    rw [room1 (by omega), wsucc (n := a.1.toNat) hk (by simp only [lenMax]; omega)]
    rfl
  · rw [getNumsL1]
    simp only [knlt a0, cond_false, idL]
theorem getNums_ok (r : Rd) (c m : Int) (s) (h : getNums r c m = some s) : ∃ k, getNumsN k r c m = some s := by
  have hm : c ≤ 1000 := by
    unfold getNums at h
    by_cases hm : c ≤ 1000
    · exact hm
    · rw [decide_eq_false hm] at h; cases h
  exact ⟨1001, by rw [getNums_eq r hm]; exact h⟩
theorem getMethod_eq (r : Rd) : getMethodN 100 r = getMethod r := by
  unfold getMethodN getMethod getRow
  refine bind_congr fun a _ => bind_congr fun b _ => bind_congr fun c _ => ?_
  rw [Option.bind_assoc]
  refine bind_congr fun d hd => ?_
  obtain ⟨d0, d1⟩ := getN_le (by omega) hd
  have := loop_get (L := getMethodL1 d) (f := igetN) (n := d.1.toNat) (st := fun k out r => ((k : Int), r, (a.1, b.1, c.1.1, c.1.2.1, out, 0, 0, [], ()), ()))
    (fin := fun out r => (getN r 8).bind fun e => (getN e.2.1 4096).bind fun f => (getNums f.2.1 64 4096).bind fun g => some ((a.1, b.1, c.1, out, e.1, f.1, g.1, ()), g.2.1, ())) (fun k out r rec hk ho => ?_) (fun out r rec => ?_) 100 d.2.1 (by omega)
  · exact this
  · rw [getMethodL1]
    simp only [klt hk, cond_true]
    refine bind_congr fun q _ => ?_
    rw [room1 (by omega), wsucc (n := d.1.toNat) hk (by simp only [lenMax]; omega)]
    rfl
  · rw [getMethodL1]
    simp only [knlt d0, cond_false]
    rfl
theorem getMethod_ok (r : Rd) (s) (h : getMethod r = some s) : ∃ k, getMethodN k r = some s := ⟨100, by rw [getMethod_eq]; exact h⟩
def tail1 (a : List Cl) (b : List Tp) (c : List Int) (d : List Mt) (r : Rd) : Option (Im × Int × Unit) :=
  (getNums r 12 11).bind fun e => (getN e.2.1 4096).bind fun f => (getN f.2.1 4096).bind fun g => (finN g.2.1).bind fun x =>
    bif !x.1 || !ifits (a, b, c, d, e.1, f.1, g.1, ()) then some (zIm, 2, ()) else some ((a, b, c, d, e.1, f.1, g.1, ()), 0, ())
def tail2 (a : List Cl) (b : List Tp) (c : List Int) (r : Rd) : Option (Im × Int × Unit) :=
  (getN r 12).bind fun n => (repO getMethod n.1.toNat n.2.1).bind fun d => tail1 a b c d.1 d.2.1
def tail3 (a : List Cl) (r : Rd) : Option (Im × Int × Unit) :=
  (getTypes r 8).bind fun b => (getN b.2.1 16).bind fun n => (repO glongN n.1.toNat n.2.1).bind fun c => tail2 a b.1 c.1 c.2.1
theorem idecode_eq (b : List Int) : idecodeN 100 b = idecode b := by
  have hspec : idecode b = bif decide ((b.length : Int) > 8192) || (decide ((b.length : Int) < 4) || !((strOfNums (b.take 4)).toList == (⟨#[112, 108, 105, 109]⟩ : ByteArray).toList)) then some (zIm, 2, ())
      else (getN (newN (b.drop 4)) 8).bind fun n => (repO getClass n.1.toNat n.2.1).bind fun a => tail3 a.1 a.2.1 := by
    unfold idecode getImg getRow tail3 tail2 tail1
    simp only [Option.bind_assoc, Option.bind_some]
  rw [hspec]
  unfold idecodeN
  by_cases h1 : (b.length : Int) > 8192
  · simp [h1]
  by_cases h2 : (b.length : Int) < 4
  · simp [h1, h2]
  have h3 : (4 : Int) ≤ (b.length : Int) := by omega
  simp only [h1, h2, h3, decide_true, decide_false, cond_true, cond_false, List.drop_zero, Bool.false_or, Int.le_refl, Bool.and_self, List.take_length]
  cases hm : (strOfNums (b.take 4)).toList == (⟨#[112, 108, 105, 109]⟩ : ByteArray).toList
  · rfl
  simp only [Bool.not_true, cond_false]
  refine bind_congr fun n hn => ?_
  obtain ⟨n0, n1⟩ := getN_le (by omega) hn
  have k1 : ∀ (a : List Cl) (b : List Tp) (c : List Int) (n : Int × Rd × Unit), 0 ≤ n.1 → n.1 ≤ 12 → loopF (idecodeL1 n) 100 ((0 : Int), n.2.1, (a, b, c, [], [], 0, 0, ()), ()) = (repO getMethod n.1.toNat n.2.1).bind fun d => tail1 a b c d.1 d.2.1 := by
    intro a b c n n0 n1
    refine loop_get (L := idecodeL1 n) (f := getMethod) (n := n.1.toNat) (st := fun k out r => ((k : Int), r, (a, b, c, out, [], 0, 0, ()), ())) (fin := fun d r => tail1 a b c d r) (fun k out r rec hk ho => ?_) (fun out r rec => ?_) 100 n.2.1 (by omega)
    · rw [idecodeL1]
      simp only [klt hk, cond_true]
      refine bind_congr fun q _ => ?_
      rw [room1 (by omega), wsucc (n := n.1.toNat) hk (by simp only [lenMax]; omega)]
      rfl
    · rw [idecodeL1]
      simp only [knlt n0, cond_false]
      unfold tail1
      refine bind_congr fun e _ => bind_congr fun f _ => bind_congr fun g _ => bind_congr fun x _ => ?_
      cases x.1
      · rfl
      · simp only [Bool.not_true, cond_false, Bool.false_or]
        cases hi : ifits (a, b, c, out, e.1, f.1, g.1, ())
        · rfl
        · simp only [Bool.not_true, cond_false]
          unfold icopy
          rw [hi]
          rfl
  have k2 : ∀ (a : List Cl) (b : List Tp) (n : Int × Rd × Unit), 0 ≤ n.1 → n.1 ≤ 16 → loopF (idecodeL2 100 n) 100 ((0 : Int), n.2.1, (a, b, [], [], [], 0, 0, ()), ()) = (repO glongN n.1.toNat n.2.1).bind fun c => tail2 a b c.1 c.2.1 := by
    intro a b n n0 n1
    refine loop_get (L := idecodeL2 100 n) (f := glongN) (n := n.1.toNat) (st := fun k out r => ((k : Int), r, (a, b, out, [], [], 0, 0, ()), ())) (fin := fun c r => tail2 a b c r) (fun k out r rec hk ho => ?_) (fun out r rec => ?_) 100 n.2.1 (by omega)
    · rw [idecodeL2]
      simp only [klt hk, cond_true]
      refine bind_congr fun q _ => ?_
      rw [room1 (by omega), wsucc (n := n.1.toNat) hk (by simp only [lenMax]; omega)]
      rfl
    · rw [idecodeL2]
      simp only [knlt n0, cond_false]
      unfold tail2
      refine bind_congr fun e he => ?_
      obtain ⟨e0, e1⟩ := getN_le (by omega) he
      exact k1 a b out e e0 (by omega)
  have k3 := loop_get (L := idecodeL3 100 n) (f := getClass) (n := n.1.toNat) (st := fun k out r => ((k : Int), r, (out, [], [], [], [], 0, 0, ()), ())) (fin := fun a r => tail3 a r) (fun k out r rec hk ho => ?_) (fun out r rec => ?_) 100 n.2.1 (by omega)
  · exact k3
  · rw [idecodeL3]
    simp only [klt hk, cond_true]
    unfold getClass
    simp only [Option.bind_assoc, Option.bind_some]
    refine bind_congr fun a _ => bind_congr fun b _ => bind_congr fun c _ => ?_
    rw [room1 (by omega), wsucc (n := n.1.toNat) hk (by simp only [lenMax]; omega)]
    rfl
  · rw [idecodeL3]
    simp only [knlt n0, cond_false]
    unfold tail3
    refine bind_congr fun b _ => bind_congr fun e he => ?_
    obtain ⟨e0, e1⟩ := getN_le (by omega) he
    exact k2 out b.1 e e0 (by omega)
theorem idecode_ok (b : List Int) (r) (h : idecode b = some r) : ∃ k, idecodeN k b = some r := ⟨100, by rw [idecode_eq]; exact h⟩
end Go.Pli

