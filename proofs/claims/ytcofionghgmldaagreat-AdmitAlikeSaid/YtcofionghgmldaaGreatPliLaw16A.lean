/- Types: the typer ends on every sane image. -/
import Derived.Test.YtcofionghgmldaaGreatPliL13E
import Derived.Test.YtcofionghgmldaaGreatPliReach
namespace Go.Pli
open Go Go.PM
def okT (t : Tp) : Prop := t.1 = 4 → t.2.1 = 0
def height (l : List Cl) (t : Tp) : Nat := if t.1 = 4 then 12 else if t.1 = 3 then (chain l t.2.1).length else 0
theorem chain_le {l : List Cl} (hl : l.length ≤ 8) (c : Int) : (chain l c).length ≤ 8 := by
 by_cases h0 : c < 0
 ·rw [chain_neg h0]; simp
 ·by_cases h1 : c < (l.length : Int)
  ·have := chain_len l (c.toNat + 1) c (by omega)
   omega
  ·have hk : kup l c = -1 := by
    unfold kup
    have : c ≥ (l.length : Int) := by omega
    simp [this]
   rw [chain_step (by omega), hk, chain_neg (by omega)]
   simp
theorem chain_up {l : List Cl} {x : Int} : ∀ (n : Nat) (c : Int), c.toNat < n → x ∈ chain l c → (chain l x).length ≤ (chain l c).length ∧ (x ≠ c → (chain l x).length < (chain l c).length)
 | 0, _, h, _ => by omega
 | n + 1, c, h, hx => by
  by_cases h0 : c < 0
  ·rw [chain_neg h0] at hx; cases hx
  have hk := kup_lt (l := l) (c := c) (by omega)
  rw [chain_step (by omega)] at hx
  have hlen : (chain l c).length = (chain l (kup l c)).length + 1 := by rw [chain_step (by omega)]; rfl
  rcases List.mem_cons.1 hx with rfl | hx
  ·exact ⟨Nat.le_refl _, fun h => absurd rfl h⟩
  ·by_cases h2 : kup l c < 0
   ·rw [chain_neg h2] at hx; cases hx
   ·have := (chain_up n (kup l c) (by omega) hx).1
    exact ⟨by omega, fun _ => by omega⟩
theorem tp_ext {a b : Tp} (h1 : a.1 = b.1) (h2 : a.2.1 = b.2.1) : a = b := by
 obtain ⟨a1, a2, ⟨⟩⟩ := a
 obtain ⟨b1, b2, ⟨⟩⟩ := b
 simp only at h1 h2
 subst h1 h2
 rfl
theorem join_up {l : List Cl} (hl : l.length ≤ 8) {a b : Tp} (ha : okT a) (hb : okT b) (h : (joinB l a b).1 ≠ 0) : okT (joinB l a b) ∧ (joinB l a b = a ∨ height l (joinB l a b) < height l a) := by
 unfold joinB at h ⊢
 cases h1 : ksub l a b <;> simp only [h1, cond_true, cond_false] at h ⊢
 ·cases h2 : ksub l b a <;> simp only [h2, cond_true, cond_false] at h ⊢
  ·cases h3 : a.1 != 3 || b.1 != 3 <;> simp only [h3, cond_true, cond_false] at h ⊢
   ·have h3a : a.1 = 3 := by
     have := (Bool.or_eq_false_iff.1 h3).1
     simpa using this
    cases hf : (chain l (kup l a.2.1)).find? fun c => kbelow l b.2.1 c with
    | none => rw [hf] at h; exact absurd rfl h
    | some c =>
     refine ⟨fun h4 => by simp at h4, .inr ?_⟩
     have hm := List.mem_of_find?_eq_some hf
     have h0 : 0 ≤ a.2.1 := by
      by_cases h0 : 0 ≤ a.2.1
      ·exact h0
      ·have hk : kup l a.2.1 = -1 := by
        unfold kup
        have : a.2.1 < 0 := by omega
        simp [this]
       rw [hk, chain_neg (by omega)] at hm
       cases hm
     have := (chain_up _ _ (Nat.lt_succ_self _) hm).1
     simp only [height, h3a]
     rw [chain_step h0]
     simp
     omega
   ·exact absurd rfl h
  ·refine ⟨ha, ?_⟩
   simp
 ·refine ⟨hb, ?_⟩
  unfold ksub at h1
  cases h4 : a.1 == 4 <;> simp only [h4, cond_true, cond_false] at h1
  ·cases h33 : a.1 == 3 && b.1 == 3 <;> simp only [h33, cond_true, cond_false] at h1
   ·simp only [Bool.and_eq_true, beq_iff_eq] at h1
    exact .inl h1.1.symm
   ·simp only [Bool.and_eq_true, beq_iff_eq] at h33
    unfold kbelow at h1
    simp only [Bool.and_eq_true, decide_eq_true_eq, List.contains_iff_mem] at h1
    by_cases he : b.2.1 = a.2.1
    ·exact .inl (tp_ext (by omega) he)
    ·refine .inr ?_
     have := (chain_up _ _ (Nat.lt_succ_self _) h1.2.2.2).2 he
     simp only [height, h33.1, h33.2]
     simpa using this
  ·have ea : a.1 = 4 := by simpa using h4
   unfold kisref at h1
   simp only [Bool.or_eq_true, beq_iff_eq] at h1
   have h12 : height l a = 12 := by simp [height, ea]
   rcases h1 with h2 | h3 | h4'
   ·right; rw [h12]; simp [height, h2]
   ·right; rw [h12]
    have := chain_le hl b.2.1
    simp only [height, h3]
    simp
    omega
   ·exact .inl (tp_ext (by omega) (by rw [hb h4', ha ea]))
def hsum (l : List Cl) (s : List Tp) : Nat := sumL (s.map (height l))
theorem height_le {l : List Cl} (hl : l.length ≤ 8) (t : Tp) : height l t ≤ 12 := by
 unfold height
 split
 ·omega
 ·split
  ·exact Nat.le_trans (chain_le hl _) (by omega)
  ·omega
theorem hsum_le {l : List Cl} (hl : l.length ≤ 8) : ∀ s : List Tp, hsum l s ≤ 12 * s.length
 | [] => by simp [hsum, sumL]
 | t :: s => by
  have := hsum_le hl s
  have := height_le hl t
  unfold hsum at *
  simp only [List.map_cons, sumL, List.length_cons]
  omega
theorem merge_up {l : List Cl} (hl : l.length ≤ 8) : ∀ (a s : List Tp), a.length = s.length → (∀ t ∈ a, okT t) → (∀ t ∈ s, okT t) → (∀ t ∈ mergeO l a s, t.1 ≠ 0) →
  (∀ t ∈ mergeO l a s, okT t) ∧ hsum l (mergeO l a s) ≤ hsum l a ∧ (mergeO l a s ≠ a → hsum l (mergeO l a s) < hsum l a)
 | [], [], _, _, _, _ => ⟨fun _ h => (by cases h), Nat.le_refl _, fun h => absurd rfl h⟩
 | [], _ :: _, h, _, _, _ => by cases h
 | _ :: _, [], h, _, _, _ => by cases h
 | x :: a, y :: s, h, ha, hs, hz => by
  have hm : mergeO l (x :: a) (y :: s) = joinB l x y :: mergeO l a s := rfl
  rw [hm] at hz ⊢
  obtain ⟨i1, i2, i3⟩ := merge_up hl a s (by simpa using h) (fun t ht => ha t (List.mem_cons_of_mem _ ht)) (fun t ht => hs t (List.mem_cons_of_mem _ ht)) (fun t ht => hz t (List.mem_cons_of_mem _ ht))
  obtain ⟨j1, j2⟩ := join_up hl (ha x (List.mem_cons_self ..)) (hs y (List.mem_cons_self ..)) (hz _ (List.mem_cons_self ..))
  refine ⟨fun t ht => ?_, ?_, fun hne => ?_⟩
  ·rcases List.mem_cons.1 ht with rfl | ht
   ·exact j1
   ·exact i1 t ht
  ·unfold hsum at *
   simp only [List.map_cons, sumL]
   rcases j2 with j2 | j2
   ·rw [j2]; omega
   ·omega
  ·unfold hsum at *
   simp only [List.map_cons, sumL]
   rcases j2 with j2 | j2
   ·rw [j2] at hne ⊢
    have := i3 fun he => hne (by rw [he])
    omega
   ·omega
def rank (l : List Cl) (s : Sh) : Nat := if s.1 then hsum l s.2.1 else 97
structure GoodS (s : Sh) : Prop where
 len : s.2.1.length ≤ 8
 ok : ∀ t ∈ s.2.1, okT t
theorem mergeB_up {l : List Cl} (hl : l.length ≤ 8) {o : Sh} (ho : GoodS o) {s : List Tp} (hs8 : s.length ≤ 8) (hs : ∀ t ∈ s, okT t) :
  ((mergeB l o s).2.2.1 = true → (mergeB l o s).2.1 = true → GoodS (mergeB l o s).1 ∧ rank l (mergeB l o s).1 < rank l o) := by
 unfold mergeB
 cases h1 : o.1 <;> simp only [Bool.not_true, Bool.not_false, cond_true, cond_false]
 ·intro _ _
  refine ⟨⟨hs8, hs⟩, ?_⟩
  have := hsum_le hl s
  simp only [rank, h1]
  simp
  omega
 ·cases h2 : decide (o.2.1.length ≠ s.length) <;> simp only [cond_true, cond_false]
  ·have hlen : o.2.1.length = s.length := by simpa using h2
   cases h3 : (mergeO l o.2.1 s).any fun t => t.1 == 0 <;> simp only [cond_true, cond_false]
   ·intro _ h4
    have hz : ∀ t ∈ mergeO l o.2.1 s, t.1 ≠ 0 := fun t ht h0 => by
     have : ((mergeO l o.2.1 s).any fun t => t.1 == 0) = true := List.any_eq_true.2 ⟨t, ht, by simp [h0]⟩
     rw [h3] at this; cases this
    obtain ⟨i1, -, i3⟩ := merge_up hl o.2.1 s hlen ho.ok hs hz
    refine ⟨⟨by rw [mergeO_len l hlen]; exact hs8, i1⟩, ?_⟩
    simp only [rank, h1, if_true]
    exact i3 fun he => by rw [he] at h4; simp at h4
   ·intro h _; cases h
  ·intro h _; cases h
theorem sumL_set {α : Type} (g : α → Nat) (z : α) : ∀ (l : List α) (k : Nat) (y : α), k < l.length → sumL ((l.set k y).map g) + g (l.getD k z) = sumL (l.map g) + g y
 | [], _, _, h => by simp at h
 | x :: l, 0, y, _ => by simp [sumL]; omega
 | x :: l, k + 1, y, h => by
  have := sumL_set g z l k y (by simpa using h)
  simp only [List.set_cons_succ, List.map_cons, sumL, List.getD_cons_succ] at this ⊢
  omega
def b2n (b : Bool) : Nat := if b then 1 else 0
def mu (l : List Cl) (h : List Sh) (q : List Bool) : Nat := sumL (h.map (rank l)) + sumL (q.map b2n)
structure GoodH (N : Nat) (h : List Sh) (q : List Bool) : Prop where
 hl : h.length = N
 ql : q.length = N
 ok : ∀ s ∈ h, GoodS s
theorem one_up {l : List Cl} (hl : l.length ≤ 8) {N : Nat} {a : List Tp} (ha8 : a.length ≤ 8) (ha : ∀ t ∈ a, okT t) : ∀ (ts : List Int) (h : List Sh) (q : List Bool), GoodH N h q → (∀ to ∈ ts, 0 ≤ to ∧ to < (N : Int)) →
  GoodH N (oneF l a ts h q).2.1 (oneF l a ts h q).2.2.1 ∧ mu l (oneF l a ts h q).2.1 (oneF l a ts h q).2.2.1 ≤ mu l h q
 | [], h, q, hg, _ => ⟨hg, Nat.le_refl _⟩
 | to :: ts, h, q, hg, ht => by
  unfold oneF
  obtain ⟨t0, t1⟩ := ht to (List.mem_cons_self ..)
  have hk : to.toNat < h.length := by rw [hg.hl]; omega
  have hkq : to.toNat < q.length := by rw [hg.ql]; omega
  have hgo : GoodS (h.getD to.toNat zSh) := by rw [getD_some (List.getElem?_eq_getElem hk)]; exact hg.ok _ (List.getElem_mem hk)
  have hup := mergeB_up hl hgo ha8 ha
  generalize mergeB l (h.getD to.toNat zSh) a = r at hup
  cases h1 : r.2.2.1 <;> simp only [Bool.not_true, Bool.not_false, cond_true, cond_false]
  ·exact ⟨hg, Nat.le_refl _⟩
  ·cases h2 : r.2.1 <;> simp only [cond_true, cond_false]
   ·exact one_up hl ha8 ha ts h q hg fun x hx => ht x (List.mem_cons_of_mem _ hx)
   ·obtain ⟨g1, g2⟩ := hup h1 h2
    have hg' : GoodH N (h.set to.toNat r.1) (q.set to.toNat true) := ⟨by rw [List.length_set, hg.hl], by rw [List.length_set, hg.ql], fun s hs => by
     rcases List.mem_or_eq_of_mem_set hs with hs | rfl
     ·exact hg.ok s hs
     ·exact g1⟩
    obtain ⟨i1, i2⟩ := one_up hl ha8 ha ts _ _ hg' fun x hx => ht x (List.mem_cons_of_mem _ hx)
    refine ⟨i1, Nat.le_trans i2 ?_⟩
    unfold mu
    have e1 := sumL_set (rank l) zSh h to.toNat r.1 hk
    have e2 := sumL_set b2n false q to.toNat true hkq
    have e3 : b2n true = 1 := rfl
    omega
theorem good_okT {t : Tp} {n : Int} (h : kgood t n = true) : okT t := by
 intro h4
 unfold kgood at h
 rw [h4] at h
 simp at h
theorem goods_okT {m : Im} {l : List Tp} (h : goods m l = true) (k : Nat) : okT (l.getD k zTp) := by
 by_cases hk : k < l.length
 ·rw [getD_some (List.getElem?_eq_getElem hk)]
  exact good_okT (List.all_eq_true.1 h _ (List.getElem_mem hk))
 ·rw [getD_out (by omega)]; intro h4; cases h4
theorem local_okT {m : Im} (hs : saneP m = true) {f : Int} (hf : inM m f = true) (n : Int) : okT (localB (mtOf m f) n) := by
 have h := sane_method hs hf
 simp only [methodB, Bool.and_eq_true] at h
 unfold localB
 cases decide (n < 0) <;> simp only [cond_true, cond_false]
 ·rw [getD_app]
  split
  ·exact goods_okT h.1 _
  ·exact goods_okT h.2.1 _
 ·intro h4; cases h4
theorem ret_okT {m : Im} (hs : saneP m = true) {f : Int} (hf : inM m f = true) : okT (mtOf m f).2.2.1 := by
 have h := sane_method hs hf
 simp only [methodB, Bool.and_eq_true, Bool.or_eq_true] at h
 rcases h.2.2.1 with h | h
 ·intro h4
  have : (mtOf m f).2.2.1 = (5, 0, ()) := by simpa using h
  rw [this] at h4; cases h4
 ·exact good_okT h
theorem fields_goods {m : Im} (hs : saneP m = true) (c : Int) (hc : sin c (m.1.length : Int) = true) : goods m (clOf m c).2.1 = true := by
 simp only [sin, Bool.and_eq_true, decide_eq_true_eq] at hc
 have := allC_of (sane_allC hs) hc.1 hc.2
 simp only [classB, Bool.and_eq_true] at this
 exact this.2.1
theorem field_okT {m : Im} (hs : saneP m = true) (c : Int) (k : Nat) : okT ((fieldsB m c).getD k zTp) := by
 have key : ∀ t ∈ fieldsB m c, okT t := by
  intro t ht
  unfold fieldsB at ht
  simp only [List.mem_flatten, List.mem_map, List.mem_reverse] at ht
  obtain ⟨x, ⟨s, hsm, rfl⟩, ht⟩ := ht
  have hin : sin s (m.1.length : Int) = true := by
   unfold raboveB at hsm
   cases hd : decide (c < (m.1.length : Int)) <;> simp only [hd, cond_true, cond_false] at hsm
   ·cases hsm
   ·have := chain_mem _ _ (Nat.lt_succ_self _) hsm
    have hd : c < (m.1.length : Int) := by simpa using hd
    simp only [sin, Bool.and_eq_true, decide_eq_true_eq]
    omega
  exact good_okT (List.all_eq_true.1 (fields_goods hs s hin) t ht)
 by_cases hk : k < (fieldsB m c).length
 ·rw [getD_some (List.getElem?_eq_getElem hk)]
  exact key _ (List.getElem_mem hk)
 ·rw [getD_out (by omega)]; intro h4; cases h4
def OutOk (e : Eff) : Prop := ∀ t ∈ e.2.1, okT t
theorem out_nil {a : List Tp} : OutOk (a, [], ()) := fun _ h => by cases h
theorem out_one {a : List Tp} {t : Tp} (h : okT t) : OutOk (a, [t], ()) := fun _ hx => by rw [List.mem_singleton] at hx; subst hx; exact h
theorem okT_lit {k n : Int} (h : k ≠ 4 ∨ n = 0) : okT (k, n, ()) := fun h4 => by
 rcases h with h | h
 ·exact absurd h4 h
 ·exact h
theorem out_called {m : Im} (hs : saneP m = true) {g : Int} (hg : inM m g = true) (t : List Tp) : OutOk (calledB (mtOf m g) t) := by
 unfold calledB
 cases (mtOf m g).2.2.1.1 != 5 <;> simp only [cond_true, cond_false]
 ·exact out_nil
 ·exact out_one (ret_okT hs hg)
theorem out_plain (o : Int) : OutOk (fplain o).1 := by
 unfold fplain
 have h1 : okT tI := okT_lit (.inr rfl)
 have h2 : okT tA := okT_lit (.inr rfl)
 have h3 : okT tN := okT_lit (.inr rfl)
 refine cond_P (P := fun z : Eff × Bool × Unit => OutOk z.1) (out_one h3) ?_
 refine cond_P (P := fun z : Eff × Bool × Unit => OutOk z.1) out_nil ?_
 refine cond_P (P := fun z : Eff × Bool × Unit => OutOk z.1) (out_one h1) ?_
 refine cond_P (P := fun z : Eff × Bool × Unit => OutOk z.1) (out_one h1) ?_
 refine cond_P (P := fun z : Eff × Bool × Unit => OutOk z.1) (out_one h1) ?_
 refine cond_P (P := fun z : Eff × Bool × Unit => OutOk z.1) out_nil ?_
 refine cond_P (P := fun z : Eff × Bool × Unit => OutOk z.1) (out_one h1) ?_
 refine cond_P (P := fun z : Eff × Bool × Unit => OutOk z.1) (out_one h1) ?_
 refine cond_P (P := fun z : Eff × Bool × Unit => OutOk z.1) out_nil ?_
 refine cond_P (P := fun z : Eff × Bool × Unit => OutOk z.1) out_nil ?_
 refine cond_P (P := fun z : Eff × Bool × Unit => OutOk z.1) (out_one h2) ?_
 exact cond_P (P := fun z : Eff × Bool × Unit => OutOk z.1) (out_one h1) out_nil
theorem out_eff {m : Im} (hs : saneP m = true) {i : Ins} {f : Int} (hf : inM m f = true) (hi : instrB m (mtOf m f) i = true) : OutOk (effB m (mtOf m f) i) := by
 have hcl := sane_allC hs
 unfold effB
 rcases i with ⟨o, a, b, ⟨⟩⟩
 refine cond_P (out_plain _) ?_
 refine cond_P (out_one (local_okT hs hf _)) (cond_P out_nil (cond_P (out_one (okT_lit (.inl (by decide)))) (cond_P (out_one (field_okT hs _ _)) (cond_P out_nil (cond_P (out_one (goods_okT (sane_goods hs) _)) (cond_P out_nil ?_))))))
 cases e : o == 31
 case true =>
  obtain rfl : o = 31 := by simpa using e
  have : sin a (m.2.2.2.1.length : Int) = true := by simpa [instrB] using hi
  exact out_called hs this _
 simp only [cond_false]
 cases e : o == 32
 case true =>
  obtain rfl : o = 32 := by simpa using e
  have : sin a (m.1.length : Int) = true ∧ sin b ((clOf m a).2.2.1.length : Int) = true := by simpa [instrB] using hi
  have hsl : hasSlot m a b = true := by unfold hasSlot; unfold sin at this; rw [this.1, this.2]; rfl
  have h1 := slot_at hsl
  simp only [sin, Bool.and_eq_true, decide_eq_true_eq] at this
  obtain ⟨h2, h3⟩ := slots_of (allC_of hcl this.1.1 this.1.2) h1
  exact out_called hs (inM_iff.2 h2) _
 simp only [cond_false]
 exact cond_P (out_one (okT_lit (.inl (by decide)))) (cond_P (cond_P out_nil out_nil) out_nil)
theorem step_okT {m : Im} (hs : saneP m = true) {f pc : Int} {s : List Tp} (hok : ∀ t ∈ s, okT t) : ∀ t ∈ (stepB m f pc s).1, okT t := by
 unfold stepB
 cases hf : inM m f
 ·intro t ht; simp at ht
 cases hp : sin pc (codeN m f : Int)
 ·intro t ht; simp at ht
 simp only [Bool.and_self, Bool.not_true, cond_false]
 cases (fnexts (insOf m f pc) pc).contains (codeN m f : Int)
 case true => intro t ht; simp at ht
 simp only [cond_false]
 cases h6 : (insOf m f pc).1 == 6 <;> simp only [cond_true, cond_false]
 ·have ho := out_eff hs hf (sane_instr hs hf hp)
  unfold stepE
  generalize effB m (mtOf m f) (insOf m f pc) = E at ho ⊢
  cases decide (s.length < E.1.length) || decide (s.length - E.1.length + E.2.1.length > 8) <;> simp only [cond_true, cond_false]
  ·cases ((s.drop (s.length - E.1.length)).zip E.1).all fun p => ffits m (insOf m f pc).1 p.1 p.2 <;> simp only [cond_true, cond_false]
   ·intro t ht; cases ht
   ·intro t ht
    rcases List.mem_append.1 ht with ht | ht
    ·exact hok t (List.mem_of_mem_take ht)
    ·exact ho t ht
  ·intro t ht; cases ht
 ·cases decide (s.length = 0) || decide (s.length ≥ 8) <;> simp only [cond_true, cond_false]
  ·intro t ht
   rcases List.mem_append.1 ht with ht | ht
   ·exact hok t ht
   ·exact hok t (List.mem_of_mem_drop ht)
  ·intro t ht; cases ht
structure GoodR (N : Nat) (h : List Sh) : Prop where
 len : h.length ≤ N
 ok : ∀ s ∈ h, s.2.1.length ≤ 8
theorem find_lt {q : List Bool} (h : q.any id = true) : q.findIdx id < q.length := List.findIdx_lt_length_of_exists (by
 obtain ⟨x, hx, h⟩ := List.any_eq_true.1 h
 exact ⟨x, hx, h⟩)
theorem walk_ends {m : Im} (hs : saneP m = true) {f : Int} (hf : inM m f = true) : ∀ (n : Nat) (h : List Sh) (q : List Bool), GoodH (codeN m f) h q → mu m.1 h q < n → ∃ r, walkM m f n h q = some r ∧ GoodR (codeN m f) r.1
 | 0, _, _, _, hm => by omega
 | n + 1, h, q, hg, hm => by
  have hl := (fit_of (saneP_of hs).1).classes
  unfold walkM
  cases ha : q.any id <;> simp only [cond_true, cond_false]
  ·exact ⟨_, rfl, by rw [hg.hl]; exact Nat.le_refl _, fun s hs => (hg.ok s hs).len⟩
  ·have hk := find_lt ha
   generalize hpc : q.findIdx id = pc at hk
   have htrue : q.getD pc false = true := by
    subst hpc
    have := List.findIdx_getElem (p := id) (xs := q) (w := hk)
    rw [getD_some (List.getElem?_eq_getElem hk)]
    exact this
   have hpcN : pc < codeN m f := by rw [← hg.ql]; exact hk
   have hkh : pc < h.length := by rw [hg.hl]; exact hpcN
   have hg1 : GoodH (codeN m f) h (q.set pc false) := ⟨hg.hl, by rw [List.length_set, hg.ql], hg.ok⟩
   have hone : oneP m f (pc : Int) h (q.set pc false) = true := OneP.to ⟨hs, hf, by simp only [sin, Bool.and_eq_true, decide_eq_true_eq]; omega, hg1.hl, hg1.ql, fun s hs => okL_of (by have := (hg.ok s hs).len; omega)⟩
   have hmu : mu m.1 h (q.set pc false) + 1 = mu m.1 h q := by
    unfold mu
    have := sumL_set b2n false q pc false hk
    rw [htrue] at this
    have e0 : b2n false = 0 := rfl
    have e1 : b2n true = 1 := rfl
    omega
   unfold tone
   rw [hone]
   simp only [cond_true, Option.bind_some]
   have hgs : GoodS (h.getD pc zSh) := by rw [getD_some (List.getElem?_eq_getElem hkh)]; exact hg.ok _ (List.getElem_mem hkh)
   cases hr : (toneB m f (pc : Int) h (q.set pc false)).1 <;> simp only [Bool.not_true, Bool.not_false, cond_true, cond_false]
   ·exact ⟨_, rfl, Nat.zero_le _, fun s hs => by cases hs⟩
   ·unfold toneB at hr ⊢
    rw [Int.toNat_natCast] at hr ⊢
    cases he : (stepB m f (pc : Int) (h.getD pc zSh).2.1).2.2.1 != 0 <;> simp only [he, cond_true, cond_false] at hr ⊢
    ·obtain ⟨-, -, h8, hto⟩ := step_facts hs (f := f) (pc := (pc : Int)) (s := (h.getD pc zSh).2.1) (by simpa using he)
     obtain ⟨i1, i2⟩ := one_up hl (N := codeN m f) h8 (step_okT hs hgs.ok) (stepB m f (pc : Int) (h.getD pc zSh).2.1).2.1 h (q.set pc false) hg1 hto
     exact walk_ends hs hf n _ _ i1 (by omega)
    ·cases hr
theorem tmethod_ends {m : Im} (hs : saneP m = true) {f : Int} (hf : inM m f = true) : ∃ r, tmethod m f = some r ∧ GoodR (codeN m f) r.1 := by
 unfold tmethod
 rw [hs, hf]
 simp only [Bool.and_self, cond_true]
 have hc := sane_code hs hf
 refine walk_ends hs hf _ _ _ ⟨by simp, by simp, fun s hs' => ?_⟩ ?_
 ·rcases List.mem_or_eq_of_mem_set hs' with h | rfl
  ·rw [List.mem_replicate] at h
   rw [h.2]
   exact ⟨Nat.zero_le _, fun _ h => by cases h⟩
  ·exact ⟨Nat.zero_le _, fun _ h => by cases h⟩
 ·unfold mu
  have e1 := sumL_set (rank m.1) zSh (List.replicate (codeN m f) zSh) 0 (true, [], ()) (by simp; omega)
  have e2 := sumL_set b2n false (List.replicate (codeN m f) false) 0 true (by simp; omega)
  have s1 : ∀ n : Nat, sumL ((List.replicate n zSh).map (rank m.1)) = 97 * n := by
   intro n
   induction n with
   | zero => rfl
   | succ n ih => rw [List.replicate_succ, List.map_cons, sumL, ih]; simp [rank]; omega
  have s2 : ∀ n : Nat, sumL ((List.replicate n false).map b2n) = 0 := by
   intro n
   induction n with
   | zero => rfl
   | succ n ih => rw [List.replicate_succ, List.map_cons, sumL, ih]; rfl
  rw [s1] at e1
  rw [s2] at e2
  have r1 : rank m.1 (true, [], ()) = 0 := rfl
  have r2 : b2n true = 1 := rfl
  omega
theorem check_ends {m : Im} (hs : saneP m = true) : ∀ (l : List Int) (out : List (List Sh)), (∀ f ∈ l, inM m f = true) → (∀ h ∈ out, GoodR 64 h) → ∃ r, checkM m l out = some r ∧ (∀ h ∈ r.1, GoodR 64 h) ∧ (r.2.2.2.1 = 0 → r.1.length = out.length + l.length) ∧ (r.2.2.2.1 ≠ 0 → r.1 = [])
 | [], out, _, ho => ⟨_, rfl, ho, fun _ => rfl, fun h => absurd rfl h⟩
 | f :: l, out, hl, ho => by
  have hf := hl f (List.mem_cons_self ..)
  obtain ⟨r, hr, hg⟩ := tmethod_ends hs hf
  have hc := sane_code hs hf
  unfold checkM
  rw [hr]
  simp only [Option.bind_some]
  cases he : r.2.2.1 != 0 <;> simp only [cond_true, cond_false]
  ·obtain ⟨r', h1, h2, h3, h4⟩ := check_ends hs l (out ++ [r.1]) (fun x hx => hl x (List.mem_cons_of_mem _ hx)) (fun h hh => by
    rcases List.mem_append.1 hh with hh | hh
    ·exact ho h hh
    ·rw [List.mem_singleton] at hh; subst hh; exact ⟨by have := hg.len; omega, hg.ok⟩)
   exact ⟨r', h1, h2, fun h0 => by rw [h3 h0]; simp; omega, h4⟩
  ·have : r.2.2.1 ≠ 0 := by simpa using he
   exact ⟨_, rfl, fun h hh => (by cases hh), fun h0 => absurd h0 this, fun _ => rfl⟩
theorem okSS_good {l : List (List Sh)} (hl : l.length ≤ 12) (h : ∀ x ∈ l, GoodR 64 x) : okSS l = true := by
 simp only [okSS, Bool.and_eq_true, List.all_eq_true]
 refine ⟨okL_of (by omega), fun x hx => ?_⟩
 have := h x hx
 exact ⟨okL_of (by have := this.len; omega), fun s hs => okL_of (by have := this.ok s hs; omega)⟩
theorem tcheck_ends {m : Im} (hs : saneP m = true) : ∃ r, tcheck m = some r ∧ okSS r.1 = true ∧ (r.2.2.2.1 = 0 → r.1.length = m.2.2.2.1.length) := by
 have h12 := (fit_of (saneP_of hs).1).methods
 unfold tcheck
 rw [hs]
 simp only [cond_true]
 obtain ⟨r, h1, h2, h3, h4⟩ := check_ends hs (ints m.2.2.2.1.length) [] (fun f hf => inM_iff.2 (mem_ints.1 hf)) (fun _ h => by cases h)
 have hn : r.2.2.2.1 = 0 → r.1.length = m.2.2.2.1.length := fun h0 => by rw [h3 h0, ints_len]; simp
 refine ⟨r, h1, okSS_good ?_ h2, hn⟩
 by_cases h0 : r.2.2.2.1 = 0
 ·rw [hn h0]; exact h12
 ·rw [h4 h0]; exact Nat.zero_le _
end Go.Pli

namespace Go.Pli
open Go Go.PM
theorem loop_ends2 {S R : Type} {L : S → (S → Option R) → Option R} {I : S → Prop} {μ : S → Nat} {Q : R → Prop} {few : Prop}
  (h : ∀ s rec, I s → (∃ r, L s rec = some r ∧ Q r) ∨ (∃ s', L s rec = rec s' ∧ I s' ∧ μ s' < μ s) ∨ (L s rec = none ∧ few)) : ∀ (k : Nat) (s : S), I s → (∃ r, loopF L k s = some r ∧ Q r) ∨ (loopF L k s = none ∧ (k ≤ μ s ∨ few))
 | 0, s, _ => .inr ⟨rfl, .inl (Nat.zero_le _)⟩
 | k + 1, s, hs => by
  rw [loopF_step]
  rcases h s (loopF L k) hs with h1 | ⟨s', h1, hs', hm⟩ | h1
  ·exact .inl h1
  ·rw [h1]
   rcases loop_ends2 h k s' hs' with h2 | ⟨h2, hk⟩
   ·exact .inl h2
   ·refine .inr ⟨h2, ?_⟩
    rcases hk with hk | hk
    ·exact .inl (by omega)
    ·exact .inr hk
  ·exact .inr ⟨h1.1, .inr h1.2⟩
theorem loop_exits {S R : Type} {L : S → (S → Option R) → Option R} {I : S → Prop} {μ : S → Nat} {E : Option R → Prop}
  (h : ∀ s rec, I s → E (L s rec) ∨ ∃ s', L s rec = rec s' ∧ I s' ∧ μ s' < μ s) : ∀ (k : Nat) (s : S), I s → E (loopF L k s) ∨ (loopF L k s = none ∧ k ≤ μ s)
 | 0, s, _ => .inr ⟨rfl, Nat.zero_le _⟩
 | k + 1, s, hs => by
  rw [loopF_step]
  rcases h s (loopF L k) hs with h1 | ⟨s', h1, hs', hm⟩
  ·exact .inl h1
  ·rw [h1]
   rcases loop_exits h k s' hs' with h2 | ⟨h2, hk⟩
   ·exact .inl h2
   ·exact .inr ⟨h2, by omega⟩
def isZ (x : Int) : Nat := if x = 0 then 1 else 0
def zn (l : List Int) : Nat := sumL (l.map isZ)
theorem zn_le : ∀ l : List Int, zn l ≤ l.length
 | [] => Nat.le_refl _
 | x :: l => by
  have := zn_le l
  unfold zn isZ at *
  simp only [List.map_cons, sumL, List.length_cons]
  split <;> omega
theorem zn_set {l : List Int} {k : Nat} {y : Int} (hk : k < l.length) (h0 : l.getD k 0 = 0) (hy : y ≠ 0) : zn (l.set k y) + 1 = zn l := by
 have := sumL_set isZ 0 l k y hk
 rw [h0] at this
 have e1 : isZ 0 = 1 := rfl
 have e2 : isZ y = 0 := by simp [isZ, hy]
 unfold zn
 omega
def inN (ED : List (List Int)) (x : Int) : Prop := 0 ≤ x ∧ x < (ED.length : Int)
structure FI (ED : List (List Int)) (idx low : List Int) (on : List Bool) (stk : List Int) (met : Int) (out : List (List Int)) : Prop where
 il : idx.length = ED.length
 ll : low.length = ED.length
 ol : on.length = ED.length
 nd : stk.Nodup
 inr : ∀ x ∈ stk, inN ED x
 mt : ∀ x ∈ stk, idx.getD x.toNat 0 ≠ 0
 cnt : met + (zn idx : Int) = (ED.length : Int)
 outs : ∀ p ∈ out, p.length ≤ ED.length ∧ ∀ x ∈ p, inN ED x
 sz : out.length + stk.length + zn idx ≤ ED.length
theorem wpred {n : Nat} (h : 0 < n) (h2 : n < 1000000) : IntKind.i64.wrap ((n : Int) - 1) = ((n - 1 : Nat) : Int) := by
 rw [w64'] <;> omega
theorem enter_at {ED : List (List Int)} {idx low : List Int} {on : List Bool} {stk : List Int} {met : Int} {out : List (List Int)} (hN : ED.length ≤ 1000) (h : FI ED idx low on stk met out) {n : Int} (hn : inN ED n) (h0 : idx.getD n.toNat 0 = 0) :
  fenterN (ED, idx, low, on, stk, met, out, ()) n = some ((ED, idx.set n.toNat (met + 1), low.set n.toNat (met + 1), on.set n.toNat true, stk ++ [n], met + 1, out, ()), ()) ∧ FI ED (idx.set n.toNat (met + 1)) (low.set n.toNat (met + 1)) (on.set n.toNat true) (stk ++ [n]) (met + 1) out ∧ zn (idx.set n.toNat (met + 1)) + 1 = zn idx := by
 obtain ⟨n0, n1⟩ := hn
 have hz := zn_le idx
 have hcnt := h.cnt
 have hil := h.il
 have hm0 : 0 ≤ met := by omega
 have hk : n.toNat < idx.length := by omega
 have hzs := zn_set (y := met + 1) hk h0 (by omega)
 have hsz := h.sz
 have hw : IntKind.i64.wrap (met + 1) = met + 1 := by rw [w64'] <;> omega
 have e1 : n < (idx.length : Int) := by omega
 have e2 : n < (low.length : Int) := by rw [h.ll]; omega
 have e3 : n < (on.length : Int) := by rw [h.ol]; omega
 have e4 : decide (stk.length + [n].length < rowMax) = true := decide_eq_true (by simp only [List.length_cons, List.length_nil, rowMax]; omega)
 have hnot : n ∉ stk := fun hm => h.mt n hm h0
 refine ⟨?_, ⟨?_, ?_, ?_, ?_, ?_, ?_, ?_, h.outs, ?_⟩, hzs⟩
 ·unfold fenterN
  simp only [n0, e1, e2, e3, e4, hw, decide_true, Bool.and_self, cond_true]
 ·rw [List.length_set, h.il]
 ·rw [List.length_set, h.ll]
 ·rw [List.length_set, h.ol]
 ·rw [List.nodup_append]
  refine ⟨h.nd, by simp, fun a ha b hb => ?_⟩
  rw [List.mem_singleton] at hb
  subst hb
  rintro rfl
  exact hnot ha
 ·intro x hx
  rcases List.mem_append.1 hx with hx | hx
  ·exact h.inr x hx
  ·rw [List.mem_singleton] at hx; subst hx; exact ⟨n0, n1⟩
 ·intro x hx
  by_cases he : x.toNat = n.toNat
  ·rw [he, List.getD_eq_getElem?_getD, List.getElem?_set_self hk]
   simp; omega
  ·have hne : ¬ n.toNat = x.toNat := fun hh => he hh.symm
   rw [List.getD_eq_getElem?_getD, List.getElem?_set_ne hne, ← List.getD_eq_getElem?_getD]
   rcases List.mem_append.1 hx with hx | hx
   ·exact h.mt x hx
   ·rw [List.mem_singleton] at hx; subst hx; exact absurd rfl he
 ·omega
 ·simp only [List.length_append, List.length_cons, List.length_nil]
  omega
theorem leave_ends {ED : List (List Int)} {idx low : List Int} {on : List Bool} {stk : List Int} {met : Int} {out : List (List Int)} (hN : ED.length ≤ 1000) (h : FI ED idx low on stk met out) {n : Int} {pre post : List Int} (hst : stk = pre ++ n :: post) :
  ∃ r, fleave (ED, idx, low, on, stk, met, out, ()) n = some r ∧ ∃ on' stk' out', r = ((ED, idx, low, on', stk', met, out', ()), ()) ∧ FI ED idx low on' stk' met out' ∧ (stk' = stk ∨ stk' = pre) := by
 refine pick_ends ?_
 have hnm : n ∈ stk := by rw [hst]; simp
 obtain ⟨n0, n1⟩ := h.inr n hnm
 have e1 : n < (low.length : Int) := by rw [h.ll]; exact n1
 have e2 : n < (idx.length : Int) := by rw [h.il]; exact n1
 have hsz := h.sz
 refine ⟨stk.length, fun k => ?_⟩
 show (∃ r, fleaveN k (ED, idx, low, on, stk, met, out, ()) n = some r ∧ _) ∨ (fleaveN k (ED, idx, low, on, stk, met, out, ()) n = none ∧ _)
 unfold fleaveN
 simp only [n0, e1, e2, decide_true, Bool.and_self, cond_true]
 cases hne : low.getD n.toNat 0 != idx.getD n.toNat 0
 case true =>
  simp only [cond_true]
  exact .inl ⟨_, rfl, on, stk, out, rfl, h, .inl rfl⟩
 simp only [cond_false]
 have key := loop_ends (L := fleaveL1 (ED, idx, low, on, stk, met, out, ()) n)
  (I := fun s => (pre ++ [n]) <+: s.2.2.1 ∧ s.2.2.1 <+: stk ∧ s.2.1.length = ED.length ∧ s.1.length + s.2.2.1.length ≤ stk.length ∧ ∀ x ∈ s.1, inN ED x)
  (μ := fun s => s.2.2.1.length) (Q := fun r => ∃ on' stk' out', r = ((ED, idx, low, on', stk', met, out', ()), ()) ∧ FI ED idx low on' stk' met out' ∧ (stk' = stk ∨ stk' = pre))
  (fun s rec hI => by
   obtain ⟨p1, p0, p2, p3, p5⟩ := hI
   obtain ⟨part, on1, st, ⟨⟩⟩ := s
   simp only at p1 p0 p2 p3 p5 ⊢
   have hpos : 0 < st.length := by
    have := p1.length_le
    simp only [List.length_append, List.length_cons, List.length_nil] at this
    omega
   have p4 : ∀ x ∈ st, inN ED x := fun x hx => h.inr x (p0.subset hx)
   have hnd : st.Nodup := h.nd.sublist p0.sublist
   have hw := wpred hpos (by omega)
   obtain ⟨ini, x, hx⟩ : ∃ ini x, st = ini ++ [x] := by
    rcases List.eq_nil_or_concat st with h | ⟨ini, x, h⟩
    ·rw [h] at hpos; simp at hpos
    ·exact ⟨ini, x, by rw [h, List.concat_eq_append]⟩
   have hl : st.length - 1 = ini.length := by rw [hx]; simp
   have hget : st.getD ini.length 0 = x := by rw [hx]; simp
   have htake : (st.take ini.length).drop 0 = ini := by rw [hx]; simp
   have hini : ini.length < st.length := by omega
   have hpi : ini <+: stk := by
    rw [hx] at p0
    exact (List.prefix_append _ _).trans p0
   obtain ⟨x0, x1⟩ := p4 x (by rw [hx]; simp)
   have x2 : x < (on1.length : Int) := by rw [p2]; exact x1
   have r1 : decide (part.length + [x].length < rowMax) = true := decide_eq_true (by simp only [List.length_cons, List.length_nil, rowMax]; omega)
   have g1 : decide ((ini.length : Int) ≤ (st.length : Int)) = true := decide_eq_true (by omega)
   have hp5 : ∀ z ∈ part ++ [x], inN ED z := by
    intro z hz
    rcases List.mem_append.1 hz with hz | hz
    ·exact p5 z hz
    ·rw [List.mem_singleton] at hz; subst hz; exact ⟨x0, x1⟩
   rw [hx, List.prefix_concat_iff] at p1
   rw [fleaveL1]
   simp only [hw, hl, dge, dlt hini, g1, Bool.and_self, cond_true, Int.toNat_natCast, hget, x0, x2, decide_true, r1, htake]
   cases hxn : x == n
   ·right
    simp only [cond_false]
    have hxne : x ≠ n := by simpa using hxn
    refine ⟨_, rfl, ⟨?_, hpi, ?_, ?_, hp5⟩, hini⟩
    ·rcases p1 with p1 | p1
     ·have := (List.append_inj' p1 rfl).2
      simp at this
      exact absurd this.symm hxne
     ·exact p1
    ·rw [List.length_set, p2]
    ·simp only [List.length_append, List.length_cons, List.length_nil]; omega
   ·left
    simp only [cond_true]
    have hxn : x = n := by simpa using hxn
    subst hxn
    have r2 : decide (out.length + [idL (sortI (part ++ [x])).1].length < rowMax) = true := decide_eq_true (by simp only [List.length_cons, List.length_nil, rowMax]; omega)
    rw [r2]
    simp only [Bool.and_true, cond_true]
    have hpre : ini = pre := by
     rcases p1 with p1 | p1
     ·exact (List.append_inj' p1 rfl).1.symm
     ·have hmem : x ∈ ini := p1.subset (by simp)
      rw [hx, List.nodup_append] at hnd
      exact absurd rfl (hnd.2.2 x hmem x (by simp))
    subst hpre
    have hsl : ini.length < stk.length := by
     have := p0.length_le
     omega
    refine ⟨_, rfl, _, ini, _, rfl, ⟨h.il, h.ll, ?_, h.nd.sublist hpi.sublist, fun y hy => h.inr y (hpi.subset hy), fun y hy => h.mt y (hpi.subset hy), h.cnt, ?_, ?_⟩, .inr rfl⟩
    ·rw [List.length_set, p2]
    ·intro p hp
     rcases List.mem_append.1 hp with hp | hp
     ·exact h.outs p hp
     ·rw [List.mem_singleton] at hp
      subst hp
      refine ⟨?_, fun y hy => hp5 y ?_⟩
      ·show (sortL (part ++ [x])).length ≤ _
       rw [(perm_sortL _).length_eq]
       simp only [List.length_append, List.length_cons, List.length_nil]
       omega
      ·exact mem_sortL.1 hy
    ·simp only [List.length_append, List.length_cons, List.length_nil]
     omega) k ([], on, stk, ()) ⟨by rw [hst, show pre ++ n :: post = (pre ++ [n]) ++ post by simp]; exact List.prefix_append _ _, List.prefix_refl _, h.ol, by simp, by simp⟩
 exact key
abbrev F2 := List Tp × List Int × List Int × List Bool × List Int × List (List Int) × (List (List Int) × Unit × Unit × Unit × Unit × Int × Unit × Unit) × Unit
def wayN (w : List Tp) : Nat := sumL (w.map fun p => 1002 - p.2.1.toNat)
structure WI (ED : List (List Int)) (s : F2) : Prop where
 fi : FI ED s.2.1 s.2.2.1 s.2.2.2.1 s.2.2.2.2.1 s.2.2.2.2.2.2.1.2.2.2.2.2.1 s.2.2.2.2.2.1
 ed : s.2.2.2.2.2.2.1.1 = ED
 way : (s.1.map fun p => p.1).Sublist s.2.2.2.2.1
 edge : ∀ p ∈ s.1, 0 ≤ p.2.1 ∧ p.2.1 ≤ 1000
def muF (s : F2) : Nat := 1003 * zn s.2.1 + wayN s.1
theorem sumL_app : ∀ a b : List Nat, sumL (a ++ b) = sumL a + sumL b
 | [], b => by simp [sumL]
 | x :: a, b => by simp only [List.cons_append, sumL, sumL_app a b]; omega
theorem wayN_app (a b : List Tp) : wayN (a ++ b) = wayN a + wayN b := by unfold wayN; rw [List.map_append, sumL_app]
theorem set_last {α : Type} (a : List α) (x y : α) : (a ++ [x]).set a.length y = a ++ [y] := by simp
theorem get_last {α : Type} (a : List α) (x z : α) : (a ++ [x]).getD a.length z = x := by simp
theorem wayN_one (n e : Int) : wayN [(n, e, ())] = 1002 - e.toNat := by simp [wayN, sumL]
theorem FI.withLow {ED : List (List Int)} {idx low low2 : List Int} {on : List Bool} {stk : List Int} {met : Int} {out : List (List Int)} (h : FI ED idx low on stk met out) (hl : low2.length = ED.length) : FI ED idx low2 on stk met out :=
 ⟨h.il, hl, h.ol, h.nd, h.inr, h.mt, h.cnt, h.outs, h.sz⟩
theorem from_step {ED : List (List Int)} (hN : ED.length ≤ 1000) (hE : ∀ e ∈ ED, e.length ≤ 1000) {s2 : F2} (hW : WI ED s2) {ini : List Tp} {node e : Int} (hway : s2.1 = ini ++ [(node, e, ())]) (rec3) (s4 : List Tp × Int × List Int × Unit) (rec5)
  (hI : ∃ e', s4.1 = ini ++ [(node, e', ())] ∧ s4.2.1 = (ini.length : Int) ∧ e ≤ e' ∧ e' ≤ 1000 ∧ s4.2.2.1.length = ED.length) :
  (∃ s', ffromL1 s2 rec3 s4 rec5 = rec3 s' ∧ WI ED s' ∧ muF s' < muF s2) ∨ ∃ s', ffromL1 s2 rec3 s4 rec5 = rec5 s' ∧ (∃ e', s'.1 = ini ++ [(node, e', ())] ∧ s'.2.1 = (ini.length : Int) ∧ e ≤ e' ∧ e' ≤ 1000 ∧ s'.2.2.1.length = ED.length) ∧ wayN s'.1 < wayN s4.1 := by
 obtain ⟨fi, ed, way, edge⟩ := hW
 obtain ⟨way0, idx, low0, on, stk, out, ⟨EDx, ⟨⟩, ⟨⟩, ⟨⟩, ⟨⟩, met, ⟨⟩, ⟨⟩⟩, ⟨⟩⟩ := s2
 obtain ⟨w, li, low, ⟨⟩⟩ := s4
 obtain ⟨e', h1, h2, h3, h4, h5⟩ := hI
 simp only at fi ed way edge hway h1 h2 h3 h4 h5 ⊢
 subst ed hway h1 h2
 have hfl := fi.withLow h5
 have hnode : node ∈ stk := way.subset (by simp)
 obtain ⟨n0, n1⟩ := fi.inr node hnode
 have he0 : 0 ≤ e := (edge (node, e, ()) (by simp)).1
 have hsz := fi.sz
 have hwl : ini.length + 1 ≤ stk.length := by simpa using way.length_le
 have hll : (ini ++ [((node, e', ()) : Tp)]).length = ini.length + 1 := by simp
 have hw1 : IntKind.i64.wrap (e' + 1) = e' + 1 := by rw [w64'] <;> omega
 have hw2 : IntKind.i64.wrap (((ini.length + 1 : Nat) : Int) - 1) = (ini.length : Int) := by rw [w64'] <;> omega
 have htake : ((ini ++ [((node, e', ()) : Tp)]).take ini.length).drop 0 = ini := by simp
 have hEn : (EDx.getD node.toNat []).length ≤ 1000 := by
  have hk : node.toNat < EDx.length := by omega
  rw [getD_some (List.getElem?_eq_getElem hk)]
  exact hE _ (List.getElem_mem hk)
 have hset : ∀ y : Tp, (ini ++ [((node, e', ()) : Tp)]).set ini.length y = ini ++ [y] := fun y => set_last _ _ _
 have hgl : ∀ y : Tp, (ini ++ [y]).getD ini.length zTp = y := fun y => get_last _ _ _
 have hil := fi.il
 have hol := fi.ol
 rw [ffromL1]
 simp only [Int.toNat_natCast, hgl, hset, n0, n1, decide_true, Bool.and_self, cond_true, hll, hw1, hw2, htake]
 by_cases hlt : e' < ((EDx.getD node.toNat []).length : Int)
 ·have e0 : 0 ≤ e' := by omega
  have hstep : wayN (ini ++ [((node, e' + 1, ()) : Tp)]) < wayN (ini ++ [((node, e', ()) : Tp)]) := by rw [wayN_app, wayN_app, wayN_one, wayN_one]; omega
  simp only [hlt, e0, decide_true, Bool.and_self, cond_true]
  generalize (EDx.getD node.toNat []).getD e'.toNat 0 = to
  by_cases t0 : to < 0
  ·right
   simp only [t0, decide_true, cond_true, Option.bind_some]
   exact ⟨_, rfl, ⟨e' + 1, rfl, rfl, by omega, by omega, h5⟩, hstep⟩
  have t0' : 0 ≤ to := by omega
  by_cases t1 : to ≥ (EDx.length : Int)
  ·right
   simp only [t0, t1, decide_true, decide_false, cond_true, cond_false, Option.bind_some]
   exact ⟨_, rfl, ⟨e' + 1, rfl, rfl, by omega, by omega, h5⟩, hstep⟩
  have t2 : to < (idx.length : Int) := by omega
  have t3 : to < (on.length : Int) := by omega
  have n2 : node < (low.length : Int) := by omega
  simp only [t0, t0', t1, t2, t3, n2, decide_true, decide_false, Bool.and_self, cond_true, cond_false, Option.bind_some]
  by_cases hz : idx.getD to.toNat 0 = 0
  ·left
   obtain ⟨q1, q2, q3⟩ := enter_at hN hfl (n := to) ⟨t0', by omega⟩ hz
   have hroom : decide ((ini ++ [((node, e' + 1, ()) : Tp)]).length + [((to, (0 : Int), ()) : Tp)].length < rowMax) = true := decide_eq_true (by simp only [List.length_append, List.length_cons, List.length_nil, rowMax]; omega)
   have hbz : (idx.getD to.toNat 0 == 0) = true := by rw [hz]; rfl
   rw [hbz, cond_true, hroom, Bool.and_true, cond_true, q1, Option.bind_some]
   refine ⟨_, rfl, ⟨q2, rfl, ?_, ?_⟩, ?_⟩
   ·have : ((ini ++ [((node, e' + 1, ()) : Tp)] ++ [((to, (0 : Int), ()) : Tp)]).map fun p => p.1) = ((ini ++ [((node, e, ()) : Tp)]).map fun p => p.1) ++ [to] := by simp
    rw [this]
    exact way.append (List.Sublist.refl _)
   ·intro p hp
    rcases List.mem_append.1 hp with hp | hp
    ·rcases List.mem_append.1 hp with hp | hp
     ·exact edge p (List.mem_append_left _ hp)
     ·rw [List.mem_singleton] at hp; subst hp; simp only; omega
    ·rw [List.mem_singleton] at hp; subst hp; simp
   ·unfold muF
    simp only
    rw [wayN_app, wayN_app, wayN_app, wayN_one, wayN_one, wayN_one]
    omega
  ·right
   have hbz : (idx.getD to.toNat 0 == 0) = false := by simpa using hz
   rw [hbz, cond_false]
   cases on.getD to.toNat false
   ·simp only [cond_false]
    exact ⟨_, rfl, ⟨e' + 1, rfl, rfl, by omega, by omega, h5⟩, hstep⟩
   ·simp only [cond_true]
    exact ⟨_, rfl, ⟨e' + 1, rfl, rfl, by omega, by omega, by rw [List.length_set]; exact h5⟩, hstep⟩
 ·left
  have g0 : decide ((0 : Int) ≤ (ini.length : Int)) = true := decide_eq_true (by omega)
  have g1 : decide ((ini.length : Int) ≤ ((ini.length + 1 : Nat) : Int)) = true := decide_eq_true (by omega)
  simp only [hlt, decide_false, cond_false, g0, g1, Bool.and_self, cond_true]
  obtain ⟨pre, post, hst, hsub⟩ : ∃ pre post, stk = pre ++ node :: post ∧ (ini.map fun p => p.1).Sublist pre := by
   rw [List.map_append, List.append_sublist_iff] at way
   obtain ⟨r1, r2, e1, e2, e3⟩ := way
   have hm : node ∈ r2 := e3.subset (by simp)
   obtain ⟨s, t, hst⟩ := List.append_of_mem hm
   exact ⟨r1 ++ s, t, by rw [e1, hst, List.append_assoc], e2.trans (List.sublist_append_left _ _)⟩
  obtain ⟨r, hr, on', stk', out', rfl, hfi, hcase⟩ := leave_ends hN hfl hst
  rw [hr, Option.bind_some]
  have hsub' : (ini.map fun p => p.1).Sublist stk' := by
   rcases hcase with rfl | rfl
   ·rw [hst]; exact hsub.trans (List.sublist_append_left _ _)
   ·exact hsub
  have hmu : ∀ low2 : List Int, muF (ini, idx, low2, on', stk', out', (EDx, (), (), (), (), met, (), ()), ()) < muF (ini ++ [((node, e, ()) : Tp)], idx, low0, on, stk, out, (EDx, (), (), (), (), met, (), ()), ()) := by
   intro low2
   unfold muF
   simp only
   rw [wayN_app, wayN_one]
   have := (edge (node, e, ()) (by simp)).2
   simp only at this
   omega
  have hedge : ∀ p ∈ ini, 0 ≤ p.2.1 ∧ p.2.1 ≤ 1000 := fun p hp => edge p (List.mem_append_left _ hp)
  by_cases hi : ini = []
  ·subst hi
   exact ⟨_, rfl, ⟨hfi, rfl, hsub', hedge⟩, hmu _⟩
  ·obtain ⟨i2, up, hup⟩ : ∃ i2 up, ini = i2 ++ [up] := by
    rcases List.eq_nil_or_concat ini with h | ⟨a, b, h⟩
    ·exact absurd h hi
    ·exact ⟨a, b, by rw [h, List.concat_eq_append]⟩
   have hpos : 0 < ini.length := by rw [hup]; simp
   have g2 : decide ((ini.length : Int) > 0) = true := decide_eq_true (by omega)
   have hw3 := wpred hpos (by omega)
   have hl3 : ini.length - 1 = i2.length := by rw [hup]; simp
   have hg3 : ini.getD i2.length zTp = up := by rw [hup]; simp
   have hlt3 : i2.length < ini.length := by rw [hup]; simp
   obtain ⟨u0, u1⟩ := hfi.inr up.1 (hsub'.subset (by rw [hup]; simp))
   have u2 : up.1 < (low.length : Int) := by omega
   have n2 : node < (low.length : Int) := by omega
   simp only [g2, hw3, hl3, hg3, dge, dlt hlt3, u0, u2, n2, decide_true, Bool.and_self, cond_true, Int.toNat_natCast]
   exact ⟨_, rfl, ⟨hfi.withLow (by rw [List.length_set]; exact h5), rfl, hsub', hedge⟩, hmu _⟩
theorem from_ends {ED : List (List Int)} (hN : ED.length ≤ 1000) (hE : ∀ e ∈ ED, e.length ≤ 1000) {idx low : List Int} {on : List Bool} {stk : List Int} {met : Int} {out : List (List Int)} (h : FI ED idx low on stk met out) {n : Int} (hn : inN ED n) (h0 : idx.getD n.toNat 0 = 0) :
  ∃ r, ffrom (ED, idx, low, on, stk, met, out, ()) n = some r ∧ ∃ idx' low' on' stk' met' out', r = ((ED, idx', low', on', stk', met', out', ()), ()) ∧ FI ED idx' low' on' stk' met' out' := by
 refine pick_ends ?_
 obtain ⟨q1, q2, q3⟩ := enter_at hN h hn h0
 refine ⟨muF ([((n, (0 : Int), ()) : Tp)], idx.set n.toNat (met + 1), low.set n.toNat (met + 1), on.set n.toNat true, stk ++ [n], out, (ED, (), (), (), (), met + 1, (), ()), ()), fun k => ?_⟩
 show (∃ r, ffromN k (ED, idx, low, on, stk, met, out, ()) n = some r ∧ _) ∨ (ffromN k (ED, idx, low, on, stk, met, out, ()) n = none ∧ _)
 unfold ffromN
 rw [q1, Option.bind_some]
 generalize hs0 : (([((n, (0 : Int), ()) : Tp)], idx.set n.toNat (met + 1), low.set n.toNat (met + 1), on.set n.toNat true, stk ++ [n], out, (ED, (), (), (), (), met + 1, (), ()), ()) : F2) = s0
 have hW0 : WI ED s0 := by
  subst hs0
  exact ⟨q2, rfl, by simp, by simp⟩
 show (∃ r, loopF (ffromL2 k) k s0 = some r ∧ _) ∨ (loopF (ffromL2 k) k s0 = none ∧ _)
 have key := loop_ends2 (L := ffromL2 k) (I := fun s => WI ED s ∧ muF s ≤ muF s0) (μ := muF) (Q := fun r => ∃ idx' low' on' stk' met' out', r = ((ED, idx', low', on', stk', met', out', ()), ()) ∧ FI ED idx' low' on' stk' met' out') (few := k ≤ muF s0)
  (fun s2 rec3 hI => by
   obtain ⟨hW, hM⟩ := hI
   rcases List.eq_nil_or_concat s2.1 with hnil | ⟨ini, p, hcat⟩
   ·left
    rw [ffromL2, hnil]
    have : decide ((([] : List Tp).length : Int) > 0) = false := rfl
    rw [this, cond_false]
    refine ⟨_, rfl, _, _, _, _, _, _, ?_, hW.fi⟩
    rw [hW.ed]
   ·rw [List.concat_eq_append] at hcat
    obtain ⟨node, e, ⟨⟩⟩ := p
    have hlen : s2.1.length = ini.length + 1 := by rw [hcat]; simp
    have hsz := hW.fi.sz
    have hwl : ini.length + 1 ≤ s2.2.2.2.2.1.length := by
     have := hW.way.length_le
     rw [List.length_map, hlen] at this
     exact this
    have hw2 : IntKind.i64.wrap (((ini.length + 1 : Nat) : Int) - 1) = (ini.length : Int) := by rw [w64'] <;> omega
    have g0 : decide (((ini.length + 1 : Nat) : Int) > 0) = true := decide_eq_true (by omega)
    have g1 : decide ((ini.length : Int) < ((ini.length + 1 : Nat) : Int)) = true := decide_eq_true (by omega)
    have hedge := hW.edge (node, e, ()) (by rw [hcat]; simp)
    simp only at hedge
    rw [ffromL2]
    simp only [hlen, hw2, g0, g1, dge, Bool.and_self, cond_true, Int.toNat_natCast]
    have inner := loop_exits (L := ffromL1 s2 rec3) (I := fun s4 => ∃ e', s4.1 = ini ++ [(node, e', ())] ∧ s4.2.1 = (ini.length : Int) ∧ e ≤ e' ∧ e' ≤ 1000 ∧ s4.2.2.1.length = ED.length) (μ := fun s4 => wayN s4.1)
     (E := fun x => ∃ s', x = rec3 s' ∧ WI ED s' ∧ muF s' < muF s2)
     (fun s4 rec5 hI => from_step hN hE hW hcat rec3 s4 rec5 hI) k (s2.1, (ini.length : Int), s2.2.2.1, ()) ⟨e, hcat, rfl, Int.le_refl _, hedge.2, hW.fi.ll⟩
    rcases inner with ⟨s', h1, h2, h3⟩ | ⟨h1, h2⟩
    ·exact .inr (.inl ⟨s', h1, ⟨h2, by omega⟩, h3⟩)
    ·refine .inr (.inr ⟨h1, ?_⟩)
     have : wayN s2.1 ≤ muF s2 := by unfold muF; omega
     simp only at h2
     omega) k s0 ⟨hW0, Nat.le_refl _⟩
 rcases key with h1 | ⟨h1, h2⟩
 ·exact .inl h1
 ·refine .inr ⟨h1, ?_⟩
  rcases h2 with h2 | h2 <;> exact h2
theorem rings_ends {ED : List (List Int)} (hN : ED.length ≤ 1000) (hE : ∀ e ∈ ED, e.length ≤ 1000) : ∃ r, rings ED = some r ∧ r.1.length ≤ ED.length ∧ ∀ p ∈ r.1, p.length ≤ ED.length ∧ ∀ x ∈ p, inN ED x := by
 refine pick_ends ?_
 refine ⟨ED.length, fun k => ?_⟩
 show (∃ r, ringsN k ED = some r ∧ _) ∨ (ringsN k ED = none ∧ _)
 have g0 : decide ((0 : Int) ≤ (ED.length : Int)) = true := decide_eq_true (by omega)
 have g1 : decide ((ED.length : Int) ≤ (ED.length : Int)) = true := decide_eq_true (by omega)
 have g2 : decide ((ED.length : Int) < (rowMax : Int)) = true := decide_eq_true (by simp only [rowMax]; omega)
 unfold ringsN
 simp only [g0, g1, g2, Bool.and_self, cond_true]
 have hz : ∀ n : Nat, zn (List.replicate n 0) = n := by
  intro n
  induction n with
  | zero => rfl
  | succ n ih =>
   unfold zn at *
   rw [List.replicate_succ, List.map_cons, sumL, ih]
   have : isZ 0 = 1 := rfl
   omega
 exact loop_ends (L := ringsL1 ED)
  (I := fun s => 0 ≤ s.1 ∧ s.1 ≤ (ED.length : Int) ∧ s.2.2.2.2.2.2.1.1 = ED ∧ FI ED s.2.1 s.2.2.1 s.2.2.2.1 s.2.2.2.2.1 s.2.2.2.2.2.2.1.2.2.2.2.2.1 s.2.2.2.2.2.1)
  (μ := fun s => ED.length - s.1.toNat) (Q := fun r => r.1.length ≤ ED.length ∧ ∀ p ∈ r.1, p.length ≤ ED.length ∧ ∀ x ∈ p, inN ED x)
  (fun s rec hI => by
   obtain ⟨k0, k1, ed, fi⟩ := hI
   obtain ⟨n, idx, low, on, stk, out, ⟨EDx, ⟨⟩, ⟨⟩, ⟨⟩, ⟨⟩, met, ⟨⟩, ⟨⟩⟩, ⟨⟩⟩ := s
   simp only at k0 k1 ed fi ⊢
   subst ed
   have hil := fi.il
   rw [ringsL1]
   by_cases hlt : n < (EDx.length : Int)
   ·right
    have n2 : n < (idx.length : Int) := by omega
    have hw : IntKind.i64.wrap (n + 1) = n + 1 := by rw [w64'] <;> omega
    simp only [hlt, n2, k0, hw, decide_true, Bool.and_self, cond_true]
    by_cases h0 : idx.getD n.toNat 0 = 0
    ·have hb : (idx.getD n.toNat 0 == 0) = true := by rw [h0]; rfl
     obtain ⟨r, hr, idx', low', on', stk', met', out', rfl, hfi⟩ := from_ends hN hE fi (n := n) ⟨k0, hlt⟩ h0
     rw [hb, cond_true, hr, Option.bind_some]
     exact ⟨_, rfl, ⟨by simp only; omega, by simp only; omega, rfl, hfi⟩, by simp only; omega⟩
    ·have hb : (idx.getD n.toNat 0 == 0) = false := by simpa using h0
     rw [hb, cond_false]
     exact ⟨_, rfl, ⟨by simp only; omega, by simp only; omega, rfl, fi⟩, by simp only; omega⟩
   ·left
    simp only [hlt, decide_false, cond_false, idL]
    exact ⟨_, rfl, by have := fi.sz; simp only; omega, fi.outs⟩) k _ ⟨by simp, by simp, rfl, ⟨by simp, by simp, by simp, by simp, by simp, by simp, by simp only [hz]; omega, by simp, by simp [hz]⟩⟩
end Go.Pli
