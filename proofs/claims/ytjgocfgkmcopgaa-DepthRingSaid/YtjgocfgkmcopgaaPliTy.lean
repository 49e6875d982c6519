/- Types: the typer ends on every sane image. -/
import Derived.Test.YtjgocfgkmcopgaaPliL13E
import Derived.Test.YtjgocfgkmcopgaaPliNt
import Derived.Test.YtjgocfgkmcopgaaPliReach
namespace Go.Pli
open Go Go.PM
def okT (t : Tp) : Prop := t.1 = 4 → t.2.1 = 0
def height (l : List Cl) (t : Tp) : Nat := if t.1 = 4 then 12 else if t.1 = 3 then (chain l t.2.1).length else 0
theorem chain_le {l : List Cl} (hl : l.length ≤ 8) (c : Int) : (chain l c).length ≤ 8 := by
 by_cases h0 : c < 0
 ·rw [chain_neg h0]; simp
 ·by_cases h1 : c < (l.length : Int)
  ·have := chain_len l (c.toNat + 1) c (by omega)
   omega
  ·have hk : kup l c = -1 := by
    unfold kup
    have : c ≥ (l.length : Int) := by omega
    simp [this]
   rw [chain_step (by omega), hk, chain_neg (by omega)]
   simp
theorem chain_up {l : List Cl} {x : Int} : ∀ (n : Nat) (c : Int), c.toNat < n → x ∈ chain l c → (chain l x).length ≤ (chain l c).length ∧ (x ≠ c → (chain l x).length < (chain l c).length)
 | 0, _, h, _ => by omega
 | n + 1, c, h, hx => by
  by_cases h0 : c < 0
  ·rw [chain_neg h0] at hx; cases hx
  have hk := kup_lt (l := l) (c := c) (by omega)
  rw [chain_step (by omega)] at hx
  have hlen : (chain l c).length = (chain l (kup l c)).length + 1 := by rw [chain_step (by omega)]; rfl
  rcases List.mem_cons.1 hx with rfl | hx
  ·exact ⟨Nat.le_refl _, fun h => absurd rfl h⟩
  ·by_cases h2 : kup l c < 0
   ·rw [chain_neg h2] at hx; cases hx
   ·have := (chain_up n (kup l c) (by omega) hx).1
    exact ⟨by omega, fun _ => by omega⟩
theorem tp_ext {a b : Tp} (h1 : a.1 = b.1) (h2 : a.2.1 = b.2.1) : a = b := by
 obtain ⟨a1, a2, ⟨⟩⟩ := a
 obtain ⟨b1, b2, ⟨⟩⟩ := b
 simp only at h1 h2
 subst h1 h2
 rfl
theorem join_up {l : List Cl} (hl : l.length ≤ 8) {a b : Tp} (ha : okT a) (hb : okT b) (h : (joinB l a b).1 ≠ 0) : okT (joinB l a b) ∧ (joinB l a b = a ∨ height l (joinB l a b) < height l a) := by
 unfold joinB at h ⊢
 cases h1 : ksub l a b <;> simp only [h1, cond_true, cond_false] at h ⊢
 ·cases h2 : ksub l b a <;> simp only [h2, cond_true, cond_false] at h ⊢
  ·cases h3 : a.1 != 3 || b.1 != 3 <;> simp only [h3, cond_true, cond_false] at h ⊢
   ·have h3a : a.1 = 3 := by
     have := (Bool.or_eq_false_iff.1 h3).1
     simpa using this
    cases hf : (chain l (kup l a.2.1)).find? fun c => kbelow l b.2.1 c with
    | none => rw [hf] at h; exact absurd rfl h
    | some c =>
     refine ⟨fun h4 => by simp at h4, .inr ?_⟩
     have hm := List.mem_of_find?_eq_some hf
     have h0 : 0 ≤ a.2.1 := by
      by_cases h0 : 0 ≤ a.2.1
      ·exact h0
      ·have hk : kup l a.2.1 = -1 := by
        unfold kup
        have : a.2.1 < 0 := by omega
        simp [this]
       rw [hk, chain_neg (by omega)] at hm
       cases hm
     have := (chain_up _ _ (Nat.lt_succ_self _) hm).1
     simp only [height, h3a]
     rw [chain_step h0]
     simp
     omega
   ·exact absurd rfl h
  ·refine ⟨ha, ?_⟩
   simp
 ·refine ⟨hb, ?_⟩
  unfold ksub at h1
  cases h4 : a.1 == 4 <;> simp only [h4, cond_true, cond_false] at h1
  ·cases h33 : a.1 == 3 && b.1 == 3 <;> simp only [h33, cond_true, cond_false] at h1
   ·simp only [Bool.and_eq_true, beq_iff_eq] at h1
    exact .inl h1.1.symm
   ·simp only [Bool.and_eq_true, beq_iff_eq] at h33
    unfold kbelow at h1
    simp only [Bool.and_eq_true, decide_eq_true_eq, List.contains_iff_mem] at h1
    by_cases he : b.2.1 = a.2.1
    ·exact .inl (tp_ext (by omega) he)
    ·refine .inr ?_
     have := (chain_up _ _ (Nat.lt_succ_self _) h1.2.2.2).2 he
     simp only [height, h33.1, h33.2]
     simpa using this
  ·have ea : a.1 = 4 := by simpa using h4
   unfold kisref at h1
   simp only [Bool.or_eq_true, beq_iff_eq] at h1
   have h12 : height l a = 12 := by simp [height, ea]
   rcases h1 with h2 | h3 | h4'
   ·right; rw [h12]; simp [height, h2]
   ·right; rw [h12]
    have := chain_le hl b.2.1
    simp only [height, h3]
    simp
    omega
   ·exact .inl (tp_ext (by omega) (by rw [hb h4', ha ea]))
def hsum (l : List Cl) (s : List Tp) : Nat := sumL (s.map (height l))
theorem height_le {l : List Cl} (hl : l.length ≤ 8) (t : Tp) : height l t ≤ 12 := by
 unfold height
 split
 ·omega
 ·split
  ·exact Nat.le_trans (chain_le hl _) (by omega)
  ·omega
theorem hsum_le {l : List Cl} (hl : l.length ≤ 8) : ∀ s : List Tp, hsum l s ≤ 12 * s.length
 | [] => by simp [hsum, sumL]
 | t :: s => by
  have := hsum_le hl s
  have := height_le hl t
  unfold hsum at *
  simp only [List.map_cons, sumL, List.length_cons]
  omega
theorem merge_up {l : List Cl} (hl : l.length ≤ 8) : ∀ (a s : List Tp), a.length = s.length → (∀ t ∈ a, okT t) → (∀ t ∈ s, okT t) → (∀ t ∈ mergeO l a s, t.1 ≠ 0) →
  (∀ t ∈ mergeO l a s, okT t) ∧ hsum l (mergeO l a s) ≤ hsum l a ∧ (mergeO l a s ≠ a → hsum l (mergeO l a s) < hsum l a)
 | [], [], _, _, _, _ => ⟨fun _ h => (by cases h), Nat.le_refl _, fun h => absurd rfl h⟩
 | [], _ :: _, h, _, _, _ => by cases h
 | _ :: _, [], h, _, _, _ => by cases h
 | x :: a, y :: s, h, ha, hs, hz => by
  have hm : mergeO l (x :: a) (y :: s) = joinB l x y :: mergeO l a s := rfl
  rw [hm] at hz ⊢
  obtain ⟨i1, i2, i3⟩ := merge_up hl a s (by simpa using h) (fun t ht => ha t (List.mem_cons_of_mem _ ht)) (fun t ht => hs t (List.mem_cons_of_mem _ ht)) (fun t ht => hz t (List.mem_cons_of_mem _ ht))
  obtain ⟨j1, j2⟩ := join_up hl (ha x (List.mem_cons_self ..)) (hs y (List.mem_cons_self ..)) (hz _ (List.mem_cons_self ..))
  refine ⟨fun t ht => ?_, ?_, fun hne => ?_⟩
  ·rcases List.mem_cons.1 ht with rfl | ht
   ·exact j1
   ·exact i1 t ht
  ·unfold hsum at *
   simp only [List.map_cons, sumL]
   rcases j2 with j2 | j2
   ·rw [j2]; omega
   ·omega
  ·unfold hsum at *
   simp only [List.map_cons, sumL]
   rcases j2 with j2 | j2
   ·rw [j2] at hne ⊢
    have := i3 fun he => hne (by rw [he])
    omega
   ·omega
def rank (l : List Cl) (s : Sh) : Nat := if s.1 then hsum l s.2.1 else 97
structure GoodS (s : Sh) : Prop where
 len : s.2.1.length ≤ 8
 ok : ∀ t ∈ s.2.1, okT t
theorem mergeB_up {l : List Cl} (hl : l.length ≤ 8) {o : Sh} (ho : GoodS o) {s : List Tp} (hs8 : s.length ≤ 8) (hs : ∀ t ∈ s, okT t) :
  ((mergeB l o s).2.2.1 = true → (mergeB l o s).2.1 = true → GoodS (mergeB l o s).1 ∧ rank l (mergeB l o s).1 < rank l o) := by
 unfold mergeB
 cases h1 : o.1 <;> simp only [Bool.not_true, Bool.not_false, cond_true, cond_false]
 ·intro _ _
  refine ⟨⟨hs8, hs⟩, ?_⟩
  have := hsum_le hl s
  simp only [rank, h1]
  simp
  omega
 ·cases h2 : decide (o.2.1.length ≠ s.length) <;> simp only [cond_true, cond_false]
  ·have hlen : o.2.1.length = s.length := by simpa using h2
   cases h3 : (mergeO l o.2.1 s).any fun t => t.1 == 0 <;> simp only [cond_true, cond_false]
   ·intro _ h4
    have hz : ∀ t ∈ mergeO l o.2.1 s, t.1 ≠ 0 := fun t ht h0 => by
     have : ((mergeO l o.2.1 s).any fun t => t.1 == 0) = true := List.any_eq_true.2 ⟨t, ht, by simp [h0]⟩
     rw [h3] at this; cases this
    obtain ⟨i1, -, i3⟩ := merge_up hl o.2.1 s hlen ho.ok hs hz
    refine ⟨⟨by rw [mergeO_len l hlen]; exact hs8, i1⟩, ?_⟩
    simp only [rank, h1, if_true]
    exact i3 fun he => by rw [he] at h4; simp at h4
   ·intro h _; cases h
  ·intro h _; cases h
theorem sumL_set {α : Type} (g : α → Nat) (z : α) : ∀ (l : List α) (k : Nat) (y : α), k < l.length → sumL ((l.set k y).map g) + g (l.getD k z) = sumL (l.map g) + g y
 | [], _, _, h => by simp at h
 | x :: l, 0, y, _ => by simp [sumL]; omega
 | x :: l, k + 1, y, h => by
  have := sumL_set g z l k y (by simpa using h)
  simp only [List.set_cons_succ, List.map_cons, sumL, List.getD_cons_succ] at this ⊢
  omega
def b2n (b : Bool) : Nat := if b then 1 else 0
def mu (l : List Cl) (h : List Sh) (q : List Bool) : Nat := sumL (h.map (rank l)) + sumL (q.map b2n)
structure GoodH (N : Nat) (h : List Sh) (q : List Bool) : Prop where
 hl : h.length = N
 ql : q.length = N
 ok : ∀ s ∈ h, GoodS s
theorem one_up {l : List Cl} (hl : l.length ≤ 8) {N : Nat} {a : List Tp} (ha8 : a.length ≤ 8) (ha : ∀ t ∈ a, okT t) : ∀ (ts : List Int) (h : List Sh) (q : List Bool), GoodH N h q → (∀ to ∈ ts, 0 ≤ to ∧ to < (N : Int)) →
  GoodH N (oneF l a ts h q).2.1 (oneF l a ts h q).2.2.1 ∧ mu l (oneF l a ts h q).2.1 (oneF l a ts h q).2.2.1 ≤ mu l h q
 | [], h, q, hg, _ => ⟨hg, Nat.le_refl _⟩
 | to :: ts, h, q, hg, ht => by
  unfold oneF
  obtain ⟨t0, t1⟩ := ht to (List.mem_cons_self ..)
  have hk : to.toNat < h.length := by rw [hg.hl]; omega
  have hkq : to.toNat < q.length := by rw [hg.ql]; omega
  have hgo : GoodS (h.getD to.toNat zSh) := by rw [getD_some (List.getElem?_eq_getElem hk)]; exact hg.ok _ (List.getElem_mem hk)
  have hup := mergeB_up hl hgo ha8 ha
  generalize mergeB l (h.getD to.toNat zSh) a = r at hup
  cases h1 : r.2.2.1 <;> simp only [Bool.not_true, Bool.not_false, cond_true, cond_false]
  ·exact ⟨hg, Nat.le_refl _⟩
  ·cases h2 : r.2.1 <;> simp only [cond_true, cond_false]
   ·exact one_up hl ha8 ha ts h q hg fun x hx => ht x (List.mem_cons_of_mem _ hx)
   ·obtain ⟨g1, g2⟩ := hup h1 h2
    have hg' : GoodH N (h.set to.toNat r.1) (q.set to.toNat true) := ⟨by rw [List.length_set, hg.hl], by rw [List.length_set, hg.ql], fun s hs => by
     rcases List.mem_or_eq_of_mem_set hs with hs | rfl
     ·exact hg.ok s hs
     ·exact g1⟩
    obtain ⟨i1, i2⟩ := one_up hl ha8 ha ts _ _ hg' fun x hx => ht x (List.mem_cons_of_mem _ hx)
    refine ⟨i1, Nat.le_trans i2 ?_⟩
    unfold mu
    have e1 := sumL_set (rank l) zSh h to.toNat r.1 hk
    have e2 := sumL_set b2n false q to.toNat true hkq
    have e3 : b2n true = 1 := rfl
    omega
theorem good_okT {t : Tp} {n : Int} (h : kgood t n = true) : okT t := by
 intro h4
 unfold kgood at h
 rw [h4] at h
 simp at h
theorem goods_okT {m : Im} {l : List Tp} (h : goods m l = true) (k : Nat) : okT (l.getD k zTp) := by
 by_cases hk : k < l.length
 ·rw [getD_some (List.getElem?_eq_getElem hk)]
  exact good_okT (List.all_eq_true.1 h _ (List.getElem_mem hk))
 ·rw [getD_out (by omega)]; intro h4; cases h4
theorem local_okT {m : Im} (hs : saneP m = true) {f : Int} (hf : inM m f = true) (n : Int) : okT (localB (mtOf m f) n) := by
 have h := sane_method hs hf
 simp only [methodB, Bool.and_eq_true] at h
 unfold localB
 cases decide (n < 0) <;> simp only [cond_true, cond_false]
 ·rw [getD_app]
  split
  ·exact goods_okT h.1 _
  ·exact goods_okT h.2.1 _
 ·intro h4; cases h4
theorem ret_okT {m : Im} (hs : saneP m = true) {f : Int} (hf : inM m f = true) : okT (mtOf m f).2.2.1 := by
 have h := sane_method hs hf
 simp only [methodB, Bool.and_eq_true, Bool.or_eq_true] at h
 rcases h.2.2.1 with h | h
 ·intro h4
  have : (mtOf m f).2.2.1 = (5, 0, ()) := by simpa using h
  rw [this] at h4; cases h4
 ·exact good_okT h
theorem fields_goods {m : Im} (hs : saneP m = true) (c : Int) (hc : sin c (m.1.length : Int) = true) : goods m (clOf m c).2.1 = true := by
 simp only [sin, Bool.and_eq_true, decide_eq_true_eq] at hc
 have := allC_of (sane_allC hs) hc.1 hc.2
 simp only [classB, Bool.and_eq_true] at this
 exact this.2.1
theorem field_okT {m : Im} (hs : saneP m = true) (c : Int) (k : Nat) : okT ((fieldsB m c).getD k zTp) := by
 have key : ∀ t ∈ fieldsB m c, okT t := by
  intro t ht
  unfold fieldsB at ht
  simp only [List.mem_flatten, List.mem_map, List.mem_reverse] at ht
  obtain ⟨x, ⟨s, hsm, rfl⟩, ht⟩ := ht
  have hin : sin s (m.1.length : Int) = true := by
   unfold raboveB at hsm
   cases hd : decide (c < (m.1.length : Int)) <;> simp only [hd, cond_true, cond_false] at hsm
   ·cases hsm
   ·have := chain_mem _ _ (Nat.lt_succ_self _) hsm
    have hd : c < (m.1.length : Int) := by simpa using hd
    simp only [sin, Bool.and_eq_true, decide_eq_true_eq]
    omega
  exact good_okT (List.all_eq_true.1 (fields_goods hs s hin) t ht)
 by_cases hk : k < (fieldsB m c).length
 ·rw [getD_some (List.getElem?_eq_getElem hk)]
  exact key _ (List.getElem_mem hk)
 ·rw [getD_out (by omega)]; intro h4; cases h4
def OutOk (e : Eff) : Prop := ∀ t ∈ e.2.1, okT t
theorem out_nil {a : List Tp} : OutOk (a, [], ()) := fun _ h => by cases h
theorem out_one {a : List Tp} {t : Tp} (h : okT t) : OutOk (a, [t], ()) := fun _ hx => by rw [List.mem_singleton] at hx; subst hx; exact h
theorem okT_lit {k n : Int} (h : k ≠ 4 ∨ n = 0) : okT (k, n, ()) := fun h4 => by
 rcases h with h | h
 ·exact absurd h4 h
 ·exact h
theorem out_called {m : Im} (hs : saneP m = true) {g : Int} (hg : inM m g = true) (t : List Tp) : OutOk (calledB (mtOf m g) t) := by
 unfold calledB
 cases (mtOf m g).2.2.1.1 != 5 <;> simp only [cond_true, cond_false]
 ·exact out_nil
 ·exact out_one (ret_okT hs hg)
theorem out_plain (o : Int) : OutOk (fplain o).1 := by
 unfold fplain
 have h1 : okT tI := okT_lit (.inr rfl)
 have h2 : okT tA := okT_lit (.inr rfl)
 have h3 : okT tN := okT_lit (.inr rfl)
 refine cond_P (P := fun z : Eff × Bool × Unit => OutOk z.1) (out_one h3) ?_
 refine cond_P (P := fun z : Eff × Bool × Unit => OutOk z.1) out_nil ?_
 refine cond_P (P := fun z : Eff × Bool × Unit => OutOk z.1) (out_one h1) ?_
 refine cond_P (P := fun z : Eff × Bool × Unit => OutOk z.1) (out_one h1) ?_
 refine cond_P (P := fun z : Eff × Bool × Unit => OutOk z.1) (out_one h1) ?_
 refine cond_P (P := fun z : Eff × Bool × Unit => OutOk z.1) out_nil ?_
 refine cond_P (P := fun z : Eff × Bool × Unit => OutOk z.1) (out_one h1) ?_
 refine cond_P (P := fun z : Eff × Bool × Unit => OutOk z.1) (out_one h1) ?_
 refine cond_P (P := fun z : Eff × Bool × Unit => OutOk z.1) out_nil ?_
 refine cond_P (P := fun z : Eff × Bool × Unit => OutOk z.1) out_nil ?_
 refine cond_P (P := fun z : Eff × Bool × Unit => OutOk z.1) (out_one h2) ?_
 exact cond_P (P := fun z : Eff × Bool × Unit => OutOk z.1) (out_one h1) out_nil
theorem out_eff {m : Im} (hs : saneP m = true) {i : Ins} {f : Int} (hf : inM m f = true) (hi : instrB m (mtOf m f) i = true) : OutOk (effB m (mtOf m f) i) := by
 have hcl := sane_allC hs
 unfold effB
 rcases i with ⟨o, a, b, ⟨⟩⟩
 refine cond_P (out_plain _) ?_
 refine cond_P (out_one (local_okT hs hf _)) (cond_P out_nil (cond_P (out_one (okT_lit (.inl (by decide)))) (cond_P (out_one (field_okT hs _ _)) (cond_P out_nil (cond_P (out_one (goods_okT (sane_goods hs) _)) (cond_P out_nil ?_))))))
 cases e : o == 31
 case true =>
  obtain rfl : o = 31 := by simpa using e
  have : sin a (m.2.2.2.1.length : Int) = true := by simpa [instrB] using hi
  exact out_called hs this _
 simp only [cond_false]
 cases e : o == 32
 case true =>
  obtain rfl : o = 32 := by simpa using e
  have : sin a (m.1.length : Int) = true ∧ sin b ((clOf m a).2.2.1.length : Int) = true := by simpa [instrB] using hi
  have hsl : hasSlot m a b = true := by unfold hasSlot; unfold sin at this; rw [this.1, this.2]; rfl
  have h1 := slot_at hsl
  simp only [sin, Bool.and_eq_true, decide_eq_true_eq] at this
  obtain ⟨h2, h3⟩ := slots_of (allC_of hcl this.1.1 this.1.2) h1
  exact out_called hs (inM_iff.2 h2) _
 simp only [cond_false]
 exact cond_P (out_one (okT_lit (.inl (by decide)))) (cond_P (cond_P out_nil out_nil) out_nil)
theorem step_okT {m : Im} (hs : saneP m = true) {f pc : Int} {s : List Tp} (hok : ∀ t ∈ s, okT t) : ∀ t ∈ (stepB m f pc s).1, okT t := by
 unfold stepB
 cases hf : inM m f
 ·intro t ht; simp at ht
 cases hp : sin pc (codeN m f : Int)
 ·intro t ht; simp at ht
 simp only [Bool.and_self, Bool.not_true, cond_false]
 cases (fnexts (insOf m f pc) pc).contains (codeN m f : Int)
 case true => intro t ht; simp at ht
 simp only [cond_false]
 cases h6 : (insOf m f pc).1 == 6 <;> simp only [cond_true, cond_false]
 ·have ho := out_eff hs hf (sane_instr hs hf hp)
  unfold stepE
  generalize effB m (mtOf m f) (insOf m f pc) = E at ho ⊢
  cases decide (s.length < E.1.length) || decide (s.length - E.1.length + E.2.1.length > 8) <;> simp only [cond_true, cond_false]
  ·cases ((s.drop (s.length - E.1.length)).zip E.1).all fun p => ffits m (insOf m f pc).1 p.1 p.2 <;> simp only [cond_true, cond_false]
   ·intro t ht; cases ht
   ·intro t ht
    rcases List.mem_append.1 ht with ht | ht
    ·exact hok t (List.mem_of_mem_take ht)
    ·exact ho t ht
  ·intro t ht; cases ht
 ·cases decide (s.length = 0) || decide (s.length ≥ 8) <;> simp only [cond_true, cond_false]
  ·intro t ht
   rcases List.mem_append.1 ht with ht | ht
   ·exact hok t ht
   ·exact hok t (List.mem_of_mem_drop ht)
  ·intro t ht; cases ht
structure GoodR (N : Nat) (h : List Sh) : Prop where
 len : h.length ≤ N
 ok : ∀ s ∈ h, s.2.1.length ≤ 8
theorem find_lt {q : List Bool} (h : q.any id = true) : q.findIdx id < q.length := List.findIdx_lt_length_of_exists (by
 obtain ⟨x, hx, h⟩ := List.any_eq_true.1 h
 exact ⟨x, hx, h⟩)
theorem walk_ends {m : Im} (hs : saneP m = true) {f : Int} (hf : inM m f = true) : ∀ (n : Nat) (h : List Sh) (q : List Bool), GoodH (codeN m f) h q → mu m.1 h q < n → ∃ r, walkM m f n h q = some r ∧ GoodR (codeN m f) r.1
 | 0, _, _, _, hm => by omega
 | n + 1, h, q, hg, hm => by
  have hl := (fit_of (saneP_of hs).1).classes
  unfold walkM
  cases ha : q.any id <;> simp only [cond_true, cond_false]
  ·exact ⟨_, rfl, by rw [hg.hl]; exact Nat.le_refl _, fun s hs => (hg.ok s hs).len⟩
  ·have hk := find_lt ha
   generalize hpc : q.findIdx id = pc at hk
   have htrue : q.getD pc false = true := by
    subst hpc
    have := List.findIdx_getElem (p := id) (xs := q) (w := hk)
    rw [getD_some (List.getElem?_eq_getElem hk)]
    exact this
   have hpcN : pc < codeN m f := by rw [← hg.ql]; exact hk
   have hkh : pc < h.length := by rw [hg.hl]; exact hpcN
   have hg1 : GoodH (codeN m f) h (q.set pc false) := ⟨hg.hl, by rw [List.length_set, hg.ql], hg.ok⟩
   have hone : oneP m f (pc : Int) h (q.set pc false) = true := OneP.to ⟨hs, hf, by simp only [sin, Bool.and_eq_true, decide_eq_true_eq]; omega, hg1.hl, hg1.ql, fun s hs => okL_of (by have := (hg.ok s hs).len; omega)⟩
   have hmu : mu m.1 h (q.set pc false) + 1 = mu m.1 h q := by
    unfold mu
    have := sumL_set b2n false q pc false hk
    rw [htrue] at this
    have e0 : b2n false = 0 := rfl
    have e1 : b2n true = 1 := rfl
    omega
   unfold tone
   rw [hone]
   simp only [cond_true, Option.bind_some]
   have hgs : GoodS (h.getD pc zSh) := by rw [getD_some (List.getElem?_eq_getElem hkh)]; exact hg.ok _ (List.getElem_mem hkh)
   cases hr : (toneB m f (pc : Int) h (q.set pc false)).1 <;> simp only [Bool.not_true, Bool.not_false, cond_true, cond_false]
   ·exact ⟨_, rfl, Nat.zero_le _, fun s hs => by cases hs⟩
   ·unfold toneB at hr ⊢
    rw [Int.toNat_natCast] at hr ⊢
    cases he : (stepB m f (pc : Int) (h.getD pc zSh).2.1).2.2.1 != 0 <;> simp only [he, cond_true, cond_false] at hr ⊢
    ·obtain ⟨-, -, h8, hto⟩ := step_facts hs (f := f) (pc := (pc : Int)) (s := (h.getD pc zSh).2.1) (by simpa using he)
     obtain ⟨i1, i2⟩ := one_up hl (N := codeN m f) h8 (step_okT hs hgs.ok) (stepB m f (pc : Int) (h.getD pc zSh).2.1).2.1 h (q.set pc false) hg1 hto
     exact walk_ends hs hf n _ _ i1 (by omega)
    ·cases hr
theorem tmethod_ends {m : Im} (hs : saneP m = true) {f : Int} (hf : inM m f = true) : ∃ r, tmethod m f = some r ∧ GoodR (codeN m f) r.1 := by
 unfold tmethod
 rw [hs, hf]
 simp only [Bool.and_self, cond_true]
 have hc := sane_code hs hf
 refine walk_ends hs hf _ _ _ ⟨by simp, by simp, fun s hs' => ?_⟩ ?_
 ·rcases List.mem_or_eq_of_mem_set hs' with h | rfl
  ·rw [List.mem_replicate] at h
   rw [h.2]
   exact ⟨Nat.zero_le _, fun _ h => by cases h⟩
  ·exact ⟨Nat.zero_le _, fun _ h => by cases h⟩
 ·unfold mu
  have e1 := sumL_set (rank m.1) zSh (List.replicate (codeN m f) zSh) 0 (true, [], ()) (by simp; omega)
  have e2 := sumL_set b2n false (List.replicate (codeN m f) false) 0 true (by simp; omega)
  have s1 : ∀ n : Nat, sumL ((List.replicate n zSh).map (rank m.1)) = 97 * n := by
   intro n
   induction n with
   | zero => rfl
   | succ n ih => rw [List.replicate_succ, List.map_cons, sumL, ih]; simp [rank]; omega
  have s2 : ∀ n : Nat, sumL ((List.replicate n false).map b2n) = 0 := by
   intro n
   induction n with
   | zero => rfl
   | succ n ih => rw [List.replicate_succ, List.map_cons, sumL, ih]; rfl
  rw [s1] at e1
  rw [s2] at e2
  have r1 : rank m.1 (true, [], ()) = 0 := rfl
  have r2 : b2n true = 1 := rfl
  omega
theorem check_ends {m : Im} (hs : saneP m = true) : ∀ (l : List Int) (out : List (List Sh)), (∀ f ∈ l, inM m f = true) → (∀ h ∈ out, GoodR 64 h) → ∃ r, checkM m l out = some r ∧ (∀ h ∈ r.1, GoodR 64 h) ∧ (r.2.2.2.1 = 0 → r.1.length = out.length + l.length) ∧ (r.2.2.2.1 ≠ 0 → r.1 = [])
 | [], out, _, ho => ⟨_, rfl, ho, fun _ => rfl, fun h => absurd rfl h⟩
 | f :: l, out, hl, ho => by
  have hf := hl f (List.mem_cons_self ..)
  obtain ⟨r, hr, hg⟩ := tmethod_ends hs hf
  have hc := sane_code hs hf
  unfold checkM
  rw [hr]
  simp only [Option.bind_some]
  cases he : r.2.2.1 != 0 <;> simp only [cond_true, cond_false]
  ·obtain ⟨r', h1, h2, h3, h4⟩ := check_ends hs l (out ++ [r.1]) (fun x hx => hl x (List.mem_cons_of_mem _ hx)) (fun h hh => by
    rcases List.mem_append.1 hh with hh | hh
    ·exact ho h hh
    ·rw [List.mem_singleton] at hh; subst hh; exact ⟨by have := hg.len; omega, hg.ok⟩)
   exact ⟨r', h1, h2, fun h0 => by rw [h3 h0]; simp; omega, h4⟩
  ·have : r.2.2.1 ≠ 0 := by simpa using he
   exact ⟨_, rfl, fun h hh => (by cases hh), fun h0 => absurd h0 this, fun _ => rfl⟩
theorem okSS_good {l : List (List Sh)} (hl : l.length ≤ 12) (h : ∀ x ∈ l, GoodR 64 x) : okSS l = true := by
 simp only [okSS, Bool.and_eq_true, List.all_eq_true]
 refine ⟨okL_of (by omega), fun x hx => ?_⟩
 have := h x hx
 exact ⟨okL_of (by have := this.len; omega), fun s hs => okL_of (by have := this.ok s hs; omega)⟩
theorem tcheck_ends {m : Im} (hs : saneP m = true) : ∃ r, tcheck m = some r ∧ okSS r.1 = true ∧ (r.2.2.2.1 = 0 → r.1.length = m.2.2.2.1.length) := by
 have h12 := (fit_of (saneP_of hs).1).methods
 unfold tcheck
 rw [hs]
 simp only [cond_true]
 obtain ⟨r, h1, h2, h3, h4⟩ := check_ends hs (ints m.2.2.2.1.length) [] (fun f hf => inM_iff.2 (mem_ints.1 hf)) (fun _ h => by cases h)
 have hn : r.2.2.2.1 = 0 → r.1.length = m.2.2.2.1.length := fun h0 => by rw [h3 h0, ints_len]; simp
 refine ⟨r, h1, okSS_good ?_ h2, hn⟩
 by_cases h0 : r.2.2.2.1 = 0
 ·rw [hn h0]; exact h12
 ·rw [h4 h0]; exact Nat.zero_le _
end Go.Pli

namespace Go.Pli
open Go Go.PM
def gT (n : Int) (t : Tp) : Prop := kgood t n = true ∨ t = (4, 0, ())
theorem gT_kind {n : Int} {t : Tp} (h : gT n t) : (t.1 = 1 ∧ t.2.1 = 0) ∨ (t.1 = 2 ∧ t.2.1 = 0) ∨ (t.1 = 3 ∧ 0 ≤ t.2.1 ∧ t.2.1 < n) ∨ (t.1 = 4 ∧ t.2.1 = 0) := by
 rcases h with h | rfl
 ·unfold kgood at h
  cases h1 : t.1 == 1
  ·cases h2 : t.1 == 2
   ·rw [h1, h2] at h
    simp only [Bool.or_self, cond_false, Bool.and_eq_true, beq_iff_eq, decide_eq_true_eq] at h
    exact .inr (.inr (.inl ⟨h.1, h.2.1, h.2.2⟩))
   ·rw [h2, Bool.or_true] at h
    exact .inr (.inl ⟨by simpa using h2, by simpa using h⟩)
  ·rw [h1, Bool.true_or] at h
   exact .inl ⟨by simpa using h1, by simpa using h⟩
 ·exact .inr (.inr (.inr ⟨rfl, rfl⟩))
theorem gT_ne {n : Int} {t : Tp} (h : gT n t) : t.1 ≠ 0 := by rcases gT_kind h with h | h | h | h <;> omega
theorem gT_ok {n : Int} {t : Tp} (h : gT n t) : okT t := fun h4 => by rcases gT_kind h with h | h | h | h <;> omega
theorem chain_trans {l : List Cl} {b c : Int} : ∀ (n : Nat) (a : Int), a.toNat < n → b ∈ chain l a → c ∈ chain l b → c ∈ chain l a
 | 0, _, h, _, _ => by omega
 | n + 1, a, h, hb, hc => by
  by_cases h0 : a < 0
  ·rw [chain_neg h0] at hb; cases hb
  have hk := kup_lt (l := l) (c := a) (by omega)
  rw [chain_step (by omega)] at hb ⊢
  rcases List.mem_cons.1 hb with rfl | hb
  ·rwa [chain_step (by omega)] at hc
  ·by_cases h2 : kup l a < 0
   ·rw [chain_neg h2] at hb; cases hb
   ·exact List.mem_cons_of_mem _ (chain_trans n (kup l a) (by omega) hb hc)
theorem chain_self {l : List Cl} {a : Int} (h : 0 ≤ a) : a ∈ chain l a := by rw [chain_step h]; exact List.mem_cons_self ..
theorem below_iff {l : List Cl} {a b : Int} : kbelow l a b = true ↔ 0 ≤ b ∧ b < (l.length : Int) ∧ a < (l.length : Int) ∧ b ∈ chain l a := by
 unfold kbelow
 simp only [Bool.and_eq_true, decide_eq_true_eq, List.contains_iff_mem]
theorem below_trans {l : List Cl} {a b c : Int} (h1 : kbelow l a b = true) (h2 : kbelow l b c = true) : kbelow l a c = true := by
 rw [below_iff] at *
 exact ⟨h2.1, h2.2.1, h1.2.2.1, chain_trans _ _ (Nat.lt_succ_self _) h1.2.2.2 h2.2.2.2⟩
theorem sub_iff {l : List Cl} {a b : Tp} : ksub l a b = true ↔ (a.1 = 4 ∧ kisref b = true) ∨ (a.1 = 3 ∧ b.1 = 3 ∧ kbelow l a.2.1 b.2.1 = true) ∨ (a = b ∧ (a.1 = 1 ∨ a.1 = 2)) := by
 unfold ksub
 cases h4 : a.1 == 4
 ·have n4 : a.1 ≠ 4 := by simpa using h4
  cases h33 : a.1 == 3 && b.1 == 3 <;> simp only [cond_true, cond_false]
  ·simp only [Bool.and_eq_true, Bool.or_eq_true, beq_iff_eq]
   constructor
   ·exact fun h => .inr (.inr h)
   ·rintro (h | h | h)
    ·exact absurd h.1 n4
    ·simp [h.1, h.2.1] at h33
    ·exact h
  ·simp only [Bool.and_eq_true, beq_iff_eq] at h33
   constructor
   ·exact fun h => .inr (.inl ⟨h33.1, h33.2, h⟩)
   ·rintro (h | h | h)
    ·exact absurd h.1 n4
    ·exact h.2.2
    ·omega
 ·have e4 : a.1 = 4 := by simpa using h4
  simp only [cond_true]
  constructor
  ·exact fun h => .inl ⟨e4, h⟩
  ·rintro (h | h | h)
   ·exact h.2
   ·omega
   ·omega
theorem isref_iff {t : Tp} : kisref t = true ↔ t.1 = 2 ∨ t.1 = 3 ∨ t.1 = 4 := by
 unfold kisref
 simp only [Bool.or_eq_true, beq_iff_eq]
theorem sub_refl {l : List Cl} {a : Tp} (h : gT (l.length : Int) a) : ksub l a a = true := by
 rw [sub_iff]
 rcases gT_kind h with h | h | h | h
 ·exact .inr (.inr ⟨rfl, .inl h.1⟩)
 ·exact .inr (.inr ⟨rfl, .inr h.1⟩)
 ·exact .inr (.inl ⟨h.1, h.1, below_iff.2 ⟨h.2.1, h.2.2, h.2.2, chain_self h.2.1⟩⟩)
 ·exact .inl ⟨h.1, isref_iff.2 (.inr (.inr h.1))⟩
theorem sub_trans {l : List Cl} {a b c : Tp} (h1 : ksub l a b = true) (h2 : ksub l b c = true) : ksub l a c = true := by
 rw [sub_iff] at *
 rcases h1 with ⟨a4, hb⟩ | ⟨a3, b3, hab⟩ | ⟨rfl, ha⟩
 ·refine .inl ⟨a4, ?_⟩
  rcases h2 with ⟨_, hc⟩ | ⟨_, c3, _⟩ | ⟨rfl, _⟩
  ·exact hc
  ·exact isref_iff.2 (.inr (.inl c3))
  ·exact hb
 ·rcases h2 with ⟨b4, _⟩ | ⟨_, c3, hbc⟩ | ⟨rfl, hb⟩
  ·omega
  ·exact .inr (.inl ⟨a3, c3, below_trans hab hbc⟩)
  ·omega
 ·exact h2
theorem sub_anti {l : List Cl} {a b : Tp} (ga : gT (l.length : Int) a) (gb : gT (l.length : Int) b) (h1 : ksub l a b = true) (h2 : ksub l b a = true) : a = b := by
 rw [sub_iff] at *
 rcases h1 with ⟨a4, hb⟩ | ⟨a3, b3, hab⟩ | ⟨h, _⟩
 ·rcases h2 with ⟨b4, _⟩ | ⟨_, a3, _⟩ | ⟨h, _⟩
  ·have e1 := gT_ok ga a4
   have e2 := gT_ok gb b4
   exact tp_ext (by omega) (by omega)
  ·omega
  ·exact h.symm
 ·rcases h2 with ⟨b4, _⟩ | ⟨_, _, hba⟩ | ⟨h, _⟩
  ·omega
  ·have i1 := (chain_mem _ _ (Nat.lt_succ_self _) (below_iff.1 hab).2.2.2).2
   have i2 := (chain_mem _ _ (Nat.lt_succ_self _) (below_iff.1 hba).2.2.2).2
   exact tp_ext (by omega) (by omega)
  ·exact h.symm
 ·exact h
theorem find_first {l : List Cl} {p : Int → Bool} {x c : Int} : ∀ (n : Nat) (d : Int), d.toNat < n → (chain l d).find? p = some x → c ∈ chain l d → p c = true → c ∈ chain l x
 | 0, _, h, _, _, _ => by omega
 | n + 1, d, h, hf, hc, hp => by
  by_cases h0 : d < 0
  ·rw [chain_neg h0] at hc; cases hc
  have hk := kup_lt (l := l) (c := d) (by omega)
  rw [chain_step (by omega), List.find?_cons] at hf
  cases hpd : p d
  ·rw [hpd] at hf
   rw [chain_step (by omega)] at hc
   rcases List.mem_cons.1 hc with rfl | hc
   ·rw [hpd] at hp; cases hp
   ·by_cases h2 : kup l d < 0
    ·rw [chain_neg h2] at hc; cases hc
    ·exact find_first n (kup l d) (by omega) hf hc hp
  ·rw [hpd] at hf
   injection hf with hf
   subst hf
   exact hc
theorem join_ub {l : List Cl} {a b : Tp} (ga : gT (l.length : Int) a) (gb : gT (l.length : Int) b) (h : (joinB l a b).1 ≠ 0) : ksub l a (joinB l a b) = true ∧ ksub l b (joinB l a b) = true ∧ gT (l.length : Int) (joinB l a b) := by
 unfold joinB at h ⊢
 cases h1 : ksub l a b <;> simp only [h1, cond_true, cond_false] at h ⊢
 ·cases h2 : ksub l b a <;> simp only [h2, cond_true, cond_false] at h ⊢
  ·cases h3 : a.1 != 3 || b.1 != 3 <;> simp only [h3, cond_true, cond_false] at h ⊢
   ·have h3a : a.1 = 3 := by simpa using (Bool.or_eq_false_iff.1 h3).1
    have h3b : b.1 = 3 := by simpa using (Bool.or_eq_false_iff.1 h3).2
    cases hf : (chain l (kup l a.2.1)).find? fun c => kbelow l b.2.1 c with
    | none => rw [hf] at h; exact absurd rfl h
    | some c =>
     have hm := List.mem_of_find?_eq_some hf
     have hb : kbelow l b.2.1 c = true := by simpa using List.find?_some hf
     have hb' := below_iff.1 hb
     have ga' : 0 ≤ a.2.1 ∧ a.2.1 < (l.length : Int) := by rcases gT_kind ga with h | h | h | h <;> omega
     have hca : c ∈ chain l a.2.1 := by rw [chain_step ga'.1]; exact List.mem_cons_of_mem _ hm
     refine ⟨sub_iff.2 (.inr (.inl ⟨h3a, rfl, below_iff.2 ⟨hb'.1, hb'.2.1, ga'.2, hca⟩⟩)), sub_iff.2 (.inr (.inl ⟨h3b, rfl, hb⟩)), .inl ?_⟩
     simp only [kgood]
     rw [decide_eq_true hb'.1, decide_eq_true hb'.2.1]
     rfl
   ·exact absurd rfl h
  ·exact ⟨sub_refl ga, trivial, ga⟩
 ·exact ⟨trivial, sub_refl gb, gb⟩
theorem join_lub {l : List Cl} {a b c : Tp} (ga : gT (l.length : Int) a) (gb : gT (l.length : Int) b) (gc : gT (l.length : Int) c) (hac : ksub l a c = true) (hbc : ksub l b c = true) : (joinB l a b).1 ≠ 0 ∧ ksub l (joinB l a b) c = true := by
 unfold joinB
 cases h1 : ksub l a b <;> simp only [cond_true, cond_false]
 ·cases h2 : ksub l b a <;> simp only [cond_true, cond_false]
  ·have n1 : ¬ ksub l a b = true := by rw [h1]; exact Bool.false_ne_true
   have n2 : ¬ ksub l b a = true := by rw [h2]; exact Bool.false_ne_true
   have h33 : a.1 = 3 ∧ b.1 = 3 := by
    have ka := gT_kind ga
    have kb := gT_kind gb
    rcases sub_iff.1 hac with ⟨a4, hc⟩ | ⟨a3, c3, _⟩ | ⟨e, ha⟩
    ·exfalso
     refine n1 (sub_iff.2 (.inl ⟨a4, ?_⟩))
     rw [isref_iff] at hc ⊢
     rcases sub_iff.1 hbc with ⟨b4, _⟩ | ⟨b3, _⟩ | ⟨e, hb⟩
     ·exact .inr (.inr b4)
     ·exact .inr (.inl b3)
     ·subst e; omega
    ·refine ⟨a3, ?_⟩
     rcases sub_iff.1 hbc with ⟨b4, _⟩ | ⟨b3, _⟩ | ⟨e, hb⟩
     ·exact absurd (sub_iff.2 (.inl ⟨b4, isref_iff.2 (.inr (.inl a3))⟩)) n2
     ·exact b3
     ·subst e; omega
    ·exfalso
     subst e
     exact n2 hbc
   have h3 : (a.1 != 3 || b.1 != 3) = false := by simp [h33.1, h33.2]
   rw [h3]
   simp only [cond_false]
   have hac' : a.1 = 3 ∧ c.1 = 3 ∧ kbelow l a.2.1 c.2.1 = true := by
    rcases sub_iff.1 hac with ⟨a4, hc⟩ | h | ⟨e, ha⟩
    ·omega
    ·exact h
    ·omega
   have hbc' : kbelow l b.2.1 c.2.1 = true := by
    rcases sub_iff.1 hbc with ⟨a4, hc⟩ | h | ⟨e, ha⟩
    ·omega
    ·exact h.2.2
    ·omega
   have ga' : 0 ≤ a.2.1 ∧ a.2.1 < (l.length : Int) := by rcases gT_kind ga with h | h | h | h <;> omega
   have hc := below_iff.1 hac'.2.2
   have hne : c.2.1 ≠ a.2.1 := fun e => n2 (by
    have : c = a := tp_ext (by omega) e
    rw [← this]; exact hbc)
   have hcm : c.2.1 ∈ chain l (kup l a.2.1) := by
    have := hc.2.2.2
    rw [chain_step ga'.1] at this
    rcases List.mem_cons.1 this with h | h
    ·exact absurd h hne
    ·exact h
   cases hf : (chain l (kup l a.2.1)).find? fun c => kbelow l b.2.1 c with
   | none =>
    have := List.find?_eq_none.1 hf _ hcm
    exact absurd hbc' this
   | some x =>
    have hx : kbelow l b.2.1 x = true := by simpa using List.find?_some hf
    have hx' := below_iff.1 hx
    refine ⟨fun h => by simp at h, sub_iff.2 (.inr (.inl ⟨rfl, hac'.2.1, below_iff.2 ⟨hc.1, hc.2.1, hx'.2.1, ?_⟩⟩))⟩
    exact find_first _ _ (Nat.lt_succ_self _) hf hcm hbc'
  ·exact ⟨gT_ne ga, hac⟩
 ·exact ⟨gT_ne gb, hbc⟩
def leS (l : List Cl) : List Tp → List Tp → Prop
 | [], [] => True
 | x :: a, y :: b => ksub l x y = true ∧ leS l a b
 | _, _ => False
def gS (n : Int) (s : List Tp) : Prop := ∀ t ∈ s, gT n t
theorem gS_cons {n : Int} {t : Tp} {s : List Tp} (h : gS n (t :: s)) : gT n t ∧ gS n s := ⟨h t (List.mem_cons_self ..), fun x hx => h x (List.mem_cons_of_mem _ hx)⟩
theorem leS_len {l : List Cl} : ∀ {a b : List Tp}, leS l a b → a.length = b.length
 | [], [], _ => rfl
 | [], _ :: _, h => h.elim
 | _ :: _, [], h => h.elim
 | _ :: _, _ :: _, h => by simp only [List.length_cons, leS_len h.2]
theorem leS_refl {l : List Cl} : ∀ {a : List Tp}, gS (l.length : Int) a → leS l a a
 | [], _ => trivial
 | _ :: _, h => ⟨sub_refl (gS_cons h).1, leS_refl (gS_cons h).2⟩
theorem leS_trans {l : List Cl} : ∀ {a b c : List Tp}, leS l a b → leS l b c → leS l a c
 | [], [], [], _, _ => trivial
 | _ :: _, _ :: _, _ :: _, h1, h2 => ⟨sub_trans h1.1 h2.1, leS_trans h1.2 h2.2⟩
 | [], [], _ :: _, _, h => h.elim
 | [], _ :: _, _, h, _ => h.elim
 | _ :: _, [], _, h, _ => h.elim
 | _ :: _, _ :: _, [], _, h => h.elim
theorem leS_anti {l : List Cl} : ∀ {a b : List Tp}, gS (l.length : Int) a → gS (l.length : Int) b → leS l a b → leS l b a → a = b
 | [], [], _, _, _, _ => rfl
 | _ :: _, _ :: _, ga, gb, h1, h2 => by rw [sub_anti (gS_cons ga).1 (gS_cons gb).1 h1.1 h2.1, leS_anti (gS_cons ga).2 (gS_cons gb).2 h1.2 h2.2]
 | [], _ :: _, _, _, h, _ => h.elim
 | _ :: _, [], _, _, h, _ => h.elim
theorem leS_drop {l : List Cl} : ∀ (n : Nat) {a b : List Tp}, leS l a b → leS l (a.drop n) (b.drop n)
 | 0, _, _, h => h
 | _ + 1, [], [], h => h
 | n + 1, _ :: _, _ :: _, h => leS_drop n h.2
 | _ + 1, [], _ :: _, h => h.elim
 | _ + 1, _ :: _, [], h => h.elim
theorem leS_take {l : List Cl} : ∀ (n : Nat) {a b : List Tp}, leS l a b → leS l (a.take n) (b.take n)
 | 0, _, _, _ => trivial
 | _ + 1, [], [], h => h
 | n + 1, _ :: _, _ :: _, h => ⟨h.1, leS_take n h.2⟩
 | _ + 1, [], _ :: _, h => h.elim
 | _ + 1, _ :: _, [], h => h.elim
theorem leS_app {l : List Cl} : ∀ {a b c d : List Tp}, leS l a b → leS l c d → leS l (a ++ c) (b ++ d)
 | [], [], _, _, _, h => h
 | _ :: _, _ :: _, _, _, h1, h2 => ⟨h1.1, leS_app h1.2 h2⟩
 | [], _ :: _, _, _, h, _ => h.elim
 | _ :: _, [], _, _, h, _ => h.elim
theorem merge_ub {l : List Cl} : ∀ {a s : List Tp}, a.length = s.length → gS (l.length : Int) a → gS (l.length : Int) s → (∀ t ∈ mergeO l a s, t.1 ≠ 0) → leS l a (mergeO l a s) ∧ leS l s (mergeO l a s) ∧ gS (l.length : Int) (mergeO l a s)
 | [], [], _, _, _, _ => ⟨trivial, trivial, fun _ h => (by cases h)⟩
 | [], _ :: _, h, _, _, _ => by cases h
 | _ :: _, [], h, _, _, _ => by cases h
 | x :: a, y :: s, h, ga, gs, hz => by
  have hm : mergeO l (x :: a) (y :: s) = joinB l x y :: mergeO l a s := rfl
  rw [hm] at hz ⊢
  obtain ⟨i1, i2, i3⟩ := merge_ub (l := l) (a := a) (s := s) (by simpa using h) (gS_cons ga).2 (gS_cons gs).2 fun t ht => hz t (List.mem_cons_of_mem _ ht)
  obtain ⟨j1, j2, j3⟩ := join_ub (gS_cons ga).1 (gS_cons gs).1 (hz _ (List.mem_cons_self ..))
  exact ⟨⟨j1, i1⟩, ⟨j2, i2⟩, fun t ht => by
   rcases List.mem_cons.1 ht with rfl | ht
   ·exact j3
   ·exact i3 t ht⟩
theorem merge_lub {l : List Cl} : ∀ {a s c : List Tp}, gS (l.length : Int) a → gS (l.length : Int) s → gS (l.length : Int) c → leS l a c → leS l s c → (∀ t ∈ mergeO l a s, t.1 ≠ 0) ∧ leS l (mergeO l a s) c
 | [], [], [], _, _, _, _, _ => ⟨fun _ h => (by cases h), trivial⟩
 | x :: a, y :: s, z :: c, ga, gs, gc, h1, h2 => by
  have hm : mergeO l (x :: a) (y :: s) = joinB l x y :: mergeO l a s := rfl
  rw [hm]
  obtain ⟨i1, i2⟩ := merge_lub (gS_cons ga).2 (gS_cons gs).2 (gS_cons gc).2 h1.2 h2.2
  obtain ⟨j1, j2⟩ := join_lub (gS_cons ga).1 (gS_cons gs).1 (gS_cons gc).1 h1.1 h2.1
  exact ⟨fun t ht => by
   rcases List.mem_cons.1 ht with rfl | ht
   ·exact j1
   ·exact i1 t ht, ⟨j2, i2⟩⟩
 | [], _, _ :: _, _, _, _, h, _ => h.elim
 | _ :: _, _, [], _, _, _, h, _ => h.elim
 | [], _ :: _, [], _, _, _, _, h => h.elim
 | _ :: _, [], _ :: _, _, _, _, _, h => h.elim
end Go.Pli

namespace Go.Pli
open Go Go.PM
abbrev nC (m : Im) : Int := (m.1.length : Int)
theorem goods_gT {m : Im} {l : List Tp} (h : goods m l = true) {k : Nat} (hk : k < l.length) : gT (nC m) (l.getD k zTp) := by
 rw [getD_some (List.getElem?_eq_getElem hk)]
 exact .inl (List.all_eq_true.1 h _ (List.getElem_mem hk))
theorem local_gT {m : Im} (hs : saneP m = true) {f : Int} (hf : inM m f = true) {n : Int} (hn : sin n (((mtOf m f).1.length + (mtOf m f).2.1.length : Nat) : Int) = true) : gT (nC m) (localB (mtOf m f) n) := by
 have h := sane_method hs hf
 simp only [methodB, Bool.and_eq_true] at h
 simp only [sin, Bool.and_eq_true, decide_eq_true_eq] at hn
 unfold localB
 rw [decide_eq_false (show ¬ n < 0 by omega), cond_false, getD_app]
 split
 ·exact goods_gT h.1 (by assumption)
 ·exact goods_gT h.2.1 (by omega)
theorem ret_gT {m : Im} (hs : saneP m = true) {f : Int} (hf : inM m f = true) (h5 : ((mtOf m f).2.2.1.1 != 5) = true) : gT (nC m) (mtOf m f).2.2.1 := by
 have h := sane_method hs hf
 simp only [methodB, Bool.and_eq_true, Bool.or_eq_true] at h
 rcases h.2.2.1 with h | h
 ·have : (mtOf m f).2.2.1 = (5, 0, ()) := by simpa using h
  rw [this] at h5; cases h5
 ·exact .inl h
theorem field_gT {m : Im} (hs : saneP m = true) {c : Int} {k : Nat} (hk : k < (fieldsB m c).length) : gT (nC m) ((fieldsB m c).getD k zTp) := by
 rw [getD_some (List.getElem?_eq_getElem hk)]
 have ht := List.getElem_mem hk
 generalize (fieldsB m c)[k] = t at ht
 unfold fieldsB at ht
 simp only [List.mem_flatten, List.mem_map, List.mem_reverse] at ht
 obtain ⟨x, ⟨s, hsm, rfl⟩, ht⟩ := ht
 have hin : sin s (m.1.length : Int) = true := by
  unfold raboveB at hsm
  cases hd : decide (c < (m.1.length : Int)) <;> simp only [hd, cond_true, cond_false] at hsm
  ·cases hsm
  ·have := chain_mem _ _ (Nat.lt_succ_self _) hsm
   have hd : c < (m.1.length : Int) := by simpa using hd
   simp only [sin, Bool.and_eq_true, decide_eq_true_eq]
   omega
 exact .inl (List.all_eq_true.1 (fields_goods hs s hin) t ht)
theorem class_gT {m : Im} {c : Int} (h : sin c (m.1.length : Int) = true) : gT (nC m) (tR c) := by
 simp only [sin, Bool.and_eq_true, decide_eq_true_eq] at h
 refine .inl ?_
 simp only [kgood, tR]
 rw [decide_eq_true h.1, decide_eq_true h.2]
 rfl
def OutG (n : Int) (e : Eff) : Prop := gS n e.2.1
theorem outG_nil {n : Int} {a : List Tp} : OutG n (a, [], ()) := fun _ h => by cases h
theorem outG_one {n : Int} {a : List Tp} {t : Tp} (h : gT n t) : OutG n (a, [t], ()) := fun _ hx => by rw [List.mem_singleton] at hx; subst hx; exact h
theorem outG_called {m : Im} (hs : saneP m = true) {g : Int} (hg : inM m g = true) (t : List Tp) : OutG (nC m) (calledB (mtOf m g) t) := by
 unfold calledB
 cases h : (mtOf m g).2.2.1.1 != 5 <;> simp only [cond_true, cond_false]
 ·exact outG_nil
 ·exact outG_one (ret_gT hs hg h)
theorem outG_plain {n : Int} (o : Int) : OutG n (fplain o).1 := by
 have h1 : gT n tI := .inl rfl
 have h2 : gT n tA := .inl rfl
 have h3 : gT n tN := .inr rfl
 have P : ∀ {b : Bool} {x y : Eff × Bool × Unit}, OutG n x.1 → OutG n y.1 → OutG n (bif b then x else y).1 := fun {b} {x} {y} h1 h2 => by cases b; exact h2; exact h1
 unfold fplain
 exact P (outG_one h3) (P outG_nil (P (outG_one h1) (P (outG_one h1) (P (outG_one h1) (P outG_nil (P (outG_one h1) (P (outG_one h1) (P outG_nil (P outG_nil (P (outG_one h2) (P (outG_one h1) outG_nil)))))))))))
theorem outG_eff {m : Im} (hs : saneP m = true) {i : Ins} {f : Int} (hf : inM m f = true) (hi : instrB m (mtOf m f) i = true) : OutG (nC m) (effB m (mtOf m f) i) := by
 have hcl := sane_allC hs
 rcases i with ⟨o, a, b, ⟨⟩⟩
 unfold effB
 cases hp : (fplain o).2.1
 case true => exact outG_plain _
 simp only [cond_false]
 cases e : o == 3
 case true =>
  obtain rfl : o = 3 := by simpa using e
  exact outG_one (local_gT hs hf (by simpa [instrB] using hi))
 simp only [cond_false]
 cases e : o == 4
 case true => exact outG_nil
 simp only [cond_false]
 cases e : o == 22
 case true =>
  obtain rfl : o = 22 := by simpa using e
  exact outG_one (class_gT (by simpa [instrB] using hi))
 simp only [cond_false]
 cases e : o == 27
 case true =>
  obtain rfl : o = 27 := by simpa using e
  have : sin a (m.1.length : Int) = true ∧ sin b (fieldsC m a : Int) = true := by simpa [instrB] using hi
  obtain ⟨h1, h2⟩ := this
  simp only [sin, Bool.and_eq_true, decide_eq_true_eq] at h1 h2
  rw [← fieldsB_count h1.2] at h2
  exact outG_one (field_gT hs (by omega))
 simp only [cond_false]
 cases e : o == 28
 case true => exact outG_nil
 simp only [cond_false]
 cases e : o == 29
 case true =>
  obtain rfl : o = 29 := by simpa using e
  have : sin a (m.2.1.length : Int) = true := by simpa [instrB] using hi
  simp only [sin, Bool.and_eq_true, decide_eq_true_eq] at this
  exact outG_one (goods_gT (sane_goods hs) (by omega))
 simp only [cond_false]
 cases e : o == 30
 case true => exact outG_nil
 simp only [cond_false]
 cases e : o == 31
 case true =>
  obtain rfl : o = 31 := by simpa using e
  have : sin a (m.2.2.2.1.length : Int) = true := by simpa [instrB] using hi
  exact outG_called hs this _
 simp only [cond_false]
 cases e : o == 32
 case true =>
  obtain rfl : o = 32 := by simpa using e
  have : sin a (m.1.length : Int) = true ∧ sin b ((clOf m a).2.2.1.length : Int) = true := by simpa [instrB] using hi
  have hsl : hasSlot m a b = true := by unfold hasSlot; unfold sin at this; rw [this.1, this.2]; rfl
  have h1 := slot_at hsl
  simp only [sin, Bool.and_eq_true, decide_eq_true_eq] at this
  obtain ⟨h2, h3⟩ := slots_of (allC_of hcl this.1.1 this.1.2) h1
  exact outG_called hs (inM_iff.2 h2) _
 simp only [cond_false]
 cases e : o == 34
 case true =>
  obtain rfl : o = 34 := by simpa using e
  exact outG_one (class_gT (by simpa [instrB] using hi))
 simp only [cond_false]
 cases o == 33 <;> simp only [cond_true, cond_false]
 ·exact outG_nil
 ·cases (mtOf m f).2.2.1.1 != 5 <;> exact outG_nil
theorem step_good {m : Im} (hs : saneP m = true) {f pc : Int} {s : List Tp} (hok : gS (nC m) s) : gS (nC m) (stepB m f pc s).1 := by
 have nil : gS (nC m) [] := fun _ h => by cases h
 unfold stepB
 cases hf : inM m f
 ·exact nil
 cases hp : sin pc (codeN m f : Int)
 ·exact nil
 simp only [Bool.and_self, Bool.not_true, cond_false]
 cases (fnexts (insOf m f pc) pc).contains (codeN m f : Int)
 case true => exact nil
 simp only [cond_false]
 cases h6 : (insOf m f pc).1 == 6 <;> simp only [cond_true, cond_false]
 ·have ho := outG_eff hs hf (sane_instr hs hf hp)
  unfold stepE
  generalize effB m (mtOf m f) (insOf m f pc) = E at ho ⊢
  cases decide (s.length < E.1.length) || decide (s.length - E.1.length + E.2.1.length > 8) <;> simp only [cond_true, cond_false]
  ·cases ((s.drop (s.length - E.1.length)).zip E.1).all fun p => ffits m (insOf m f pc).1 p.1 p.2 <;> simp only [cond_true, cond_false]
   ·exact nil
   ·intro t ht
    rcases List.mem_append.1 ht with ht | ht
    ·exact hok t (List.mem_of_mem_take ht)
    ·exact ho t ht
  ·exact nil
 ·cases decide (s.length = 0) || decide (s.length ≥ 8) <;> simp only [cond_true, cond_false]
  ·intro t ht
   rcases List.mem_append.1 ht with ht | ht
   ·exact hok t ht
   ·exact hok t (List.mem_of_mem_drop ht)
  ·exact nil
theorem fits_mono {m : Im} {o : Int} {a b w : Tp} (h : ksub m.1 a b = true) (hb : ffits m o b w = true) : ffits m o a w = true := by
 unfold ffits at hb ⊢
 cases h0 : w.1 == 0 <;> simp only [h0, cond_true, cond_false] at hb ⊢
 cases h4 : w.1 == 4 <;> simp only [h4, cond_true, cond_false] at hb ⊢
 ·exact sub_trans h hb
 ·simp only [Bool.and_eq_true, Bool.or_eq_true, bne_iff_ne] at hb ⊢
  rcases sub_iff.1 h with ⟨a4, _⟩ | ⟨a3, _⟩ | ⟨rfl, _⟩
  ·exact ⟨isref_iff.2 (.inr (.inr a4)), .inr (by omega)⟩
  ·exact ⟨isref_iff.2 (.inr (.inl a3)), .inr (by omega)⟩
  ·exact hb
theorem all_mono {m : Im} {o : Int} : ∀ {a b : List Tp} {w : List Tp}, leS m.1 a b → ((b.zip w).all fun p => ffits m o p.1 p.2) = true → ((a.zip w).all fun p => ffits m o p.1 p.2) = true
 | [], [], _, _, _ => by simp
 | x :: a, y :: b, [], _, _ => by simp
 | x :: a, y :: b, w :: ws, hle, h => by
  simp only [List.zip_cons_cons, List.all_cons, Bool.and_eq_true] at h ⊢
  exact ⟨fits_mono hle.1 h.1, all_mono hle.2 h.2⟩
 | [], _ :: _, _, h, _ => h.elim
 | _ :: _, [], _, h, _ => h.elim
theorem step_mono {m : Im} (hs : saneP m = true) {f pc : Int} {s t : List Tp} (hle : leS m.1 s t) (h : (stepB m f pc t).2.2.1 = 0) :
  (stepB m f pc s).2.2.1 = 0 ∧ (stepB m f pc s).2.1 = (stepB m f pc t).2.1 ∧ leS m.1 (stepB m f pc s).1 (stepB m f pc t).1 := by
 have hlen := leS_len hle
 unfold stepB at h ⊢
 cases hf : inM m f
 ·rw [hf] at h; simp at h
 cases hp : sin pc (codeN m f : Int)
 ·rw [hf, hp] at h; simp at h
 simp only [hf, hp, Bool.and_self, Bool.not_true, cond_false] at h ⊢
 cases hn : (fnexts (insOf m f pc) pc).contains (codeN m f : Int)
 case true => rw [hn] at h; simp at h
 simp only [hn, cond_false] at h ⊢
 have hi := sane_instr hs hf hp
 cases h6 : (insOf m f pc).1 == 6 <;> simp only [h6, cond_true, cond_false] at h ⊢
 ·have ho := outG_eff hs hf hi
  unfold stepE at h ⊢
  rw [hlen]
  generalize effB m (mtOf m f) (insOf m f pc) = E at h ho ⊢
  cases hb : decide (t.length < E.1.length) || decide (t.length - E.1.length + E.2.1.length > 8) <;> simp only [hb, cond_true, cond_false] at h ⊢
  ·cases hz : ((t.drop (t.length - E.1.length)).zip E.1).all fun p => ffits m (insOf m f pc).1 p.1 p.2 <;> simp only [hz, cond_true, cond_false] at h ⊢
   ·cases h
   ·rw [all_mono (leS_drop _ hle) hz]
    exact ⟨rfl, rfl, leS_app (leS_take _ hle) (leS_refl ho)⟩
  ·cases h
 ·rw [hlen]
  cases hb : decide (t.length = 0) || decide (t.length ≥ 8) <;> simp only [hb, cond_true, cond_false] at h ⊢
  ·exact ⟨trivial, trivial, leS_app hle (leS_drop _ hle)⟩
  ·cases h
structure Gd (m : Im) (N : Nat) (h : List Sh) : Prop where
 len : h.length = N
 good : ∀ s ∈ h, s.2.1.length ≤ 8 ∧ gS (nC m) s.2.1
 bare : ∀ s ∈ h, s.1 = false → s = zSh
def sh (h : List Sh) (k : Nat) : Sh := h.getD k zSh
theorem Gd.at' {m : Im} {N : Nat} {h : List Sh} (hg : Gd m N h) (k : Nat) : (sh h k).2.1.length ≤ 8 ∧ gS (nC m) (sh h k).2.1 := by
 unfold sh
 by_cases hk : k < h.length
 ·rw [getD_some (List.getElem?_eq_getElem hk)]; exact hg.good _ (List.getElem_mem hk)
 ·rw [getD_out (by omega)]; exact ⟨Nat.zero_le _, fun _ h => by cases h⟩
def Bel (m : Im) (h S : List Sh) : Prop := ∀ k, (sh h k).1 = true → (sh S k).1 = true ∧ leS m.1 (sh h k).2.1 (sh S k).2.1
def Cov (m : Im) (f : Int) (h : List Sh) (pc : Nat) : Prop :=
 (stepB m f (pc : Int) (sh h pc).2.1).2.2.1 = 0 ∧ ∀ to ∈ (stepB m f (pc : Int) (sh h pc).2.1).2.1, (sh h to.toNat).1 = true ∧ leS m.1 (stepB m f (pc : Int) (sh h pc).2.1).1 (sh h to.toNat).2.1
structure PF (m : Im) (f : Int) (S : List Sh) : Prop where
 gd : Gd m (codeN m f) S
 start : (sh S 0).1 = true ∧ (sh S 0).2.1 = []
 cov : ∀ pc, (sh S pc).1 = true → Cov m f S pc
theorem bel_refl {m : Im} {N : Nat} {h : List Sh} (hg : Gd m N h) : Bel m h h := fun k hk => ⟨hk, leS_refl (hg.at' k).2⟩
theorem bel_trans {m : Im} {a b c : List Sh} (h1 : Bel m a b) (h2 : Bel m b c) : Bel m a c := fun k hk => by
 obtain ⟨i1, i2⟩ := h1 k hk
 obtain ⟨j1, j2⟩ := h2 k i1
 exact ⟨j1, leS_trans i2 j2⟩
theorem bel_anti {m : Im} {N : Nat} {a b : List Sh} (ga : Gd m N a) (gb : Gd m N b) (h1 : Bel m a b) (h2 : Bel m b a) : a = b := by
 refine List.ext_getElem (by rw [ga.len, gb.len]) fun k k1 k2 => ?_
 have e1 : sh a k = a[k] := getD_some (List.getElem?_eq_getElem k1)
 have e2 : sh b k = b[k] := getD_some (List.getElem?_eq_getElem k2)
 rw [← e1, ← e2]
 have key : ∀ (x y : Sh), x.1 = y.1 → x.2.1 = y.2.1 → x = y := by
  rintro ⟨x1, x2, ⟨⟩⟩ ⟨y1, y2, ⟨⟩⟩ h1 h2
  simp only at h1 h2
  subst h1 h2
  rfl
 cases hs : (sh a k).1
 ·cases hb : (sh b k).1
  ·rw [e1] at hs ⊢
   rw [e2] at hb ⊢
   rw [ga.bare _ (List.getElem_mem k1) hs, gb.bare _ (List.getElem_mem k2) hb]
  ·have := (h2 k hb).1
   rw [hs] at this; cases this
 ·obtain ⟨i1, i2⟩ := h1 k hs
  exact key _ _ (by rw [hs, i1]) (leS_anti (ga.at' k).2 (gb.at' k).2 i2 (h2 k i1).2)
theorem sh_set {h : List Sh} {k : Nat} (hk : k < h.length) (s : Sh) (j : Nat) : sh (h.set k s) j = if j = k then s else sh h j := by
 unfold sh
 rw [List.getD_eq_getElem?_getD, List.getD_eq_getElem?_getD, List.getElem?_set]
 by_cases hj : k = j
 ·subst hj; simp [hk]
 ·have : ¬ j = k := fun h => hj h.symm
  simp [hj, this]
theorem merge_facts {m : Im} {o : Sh} {s : List Tp} (ho : o.2.1.length ≤ 8 ∧ gS (nC m) o.2.1) (hs8 : s.length ≤ 8) (hs : gS (nC m) s) (h : (mergeB m.1 o s).2.2.1 = true) :
  ((mergeB m.1 o s).1.2.1.length ≤ 8 ∧ gS (nC m) (mergeB m.1 o s).1.2.1) ∧ (mergeB m.1 o s).1.1 = true ∧ leS m.1 s (mergeB m.1 o s).1.2.1 ∧ (o.1 = true → leS m.1 o.2.1 (mergeB m.1 o s).1.2.1) ∧ ((mergeB m.1 o s).2.1 = false → o.1 = true ∧ (mergeB m.1 o s).1.2.1 = o.2.1) := by
 unfold mergeB at h ⊢
 cases h1 : o.1 <;> simp only [h1, Bool.not_true, Bool.not_false, cond_true, cond_false] at h ⊢
 ·exact ⟨⟨hs8, hs⟩, trivial, leS_refl hs, fun h => (by cases h), fun h => (by cases h)⟩
 ·cases h2 : decide (o.2.1.length ≠ s.length) <;> simp only [h2, cond_true, cond_false] at h ⊢
  ·have hlen : o.2.1.length = s.length := by simpa using h2
   cases h3 : (mergeO m.1 o.2.1 s).any fun t => t.1 == 0 <;> simp only [h3, cond_true, cond_false] at h ⊢
   ·have hz : ∀ t ∈ mergeO m.1 o.2.1 s, t.1 ≠ 0 := fun t ht h0 => by
     have : ((mergeO m.1 o.2.1 s).any fun t => t.1 == 0) = true := List.any_eq_true.2 ⟨t, ht, by simp [h0]⟩
     rw [h3] at this; cases this
    obtain ⟨i1, i2, i3⟩ := merge_ub hlen ho.2 hs hz
    refine ⟨⟨by rw [mergeO_len m.1 hlen]; exact hs8, i3⟩, trivial, i2, fun _ => i1, fun h => ⟨trivial, by simpa using h⟩⟩
   ·cases h
  ·cases h
theorem merge_below {m : Im} {o S : Sh} {s : List Tp} (ho : gS (nC m) o.2.1) (hS : gS (nC m) S.2.1) (hs : gS (nC m) s) (h1 : o.1 = true → leS m.1 o.2.1 S.2.1) (h2 : leS m.1 s S.2.1) :
  (mergeB m.1 o s).2.2.1 = true ∧ leS m.1 (mergeB m.1 o s).1.2.1 S.2.1 := by
 unfold mergeB
 cases ho1 : o.1 <;> simp only [Bool.not_true, Bool.not_false, cond_true, cond_false]
 ·exact ⟨trivial, h2⟩
 ·have hle := h1 ho1
  have hlen : o.2.1.length = s.length := by rw [leS_len hle, leS_len h2]
  have e : decide (o.2.1.length ≠ s.length) = false := decide_eq_false fun h => h hlen
  rw [e]
  simp only [cond_false]
  obtain ⟨i1, i2⟩ := merge_lub ho hs hS hle h2
  have h3 : ((mergeO m.1 o.2.1 s).any fun t => t.1 == 0) = false := by
   cases hh : (mergeO m.1 o.2.1 s).any fun t => t.1 == 0
   ·rfl
   ·obtain ⟨t, ht, h0⟩ := List.any_eq_true.1 hh
    exact absurd (by simpa using h0) (i1 t ht)
  rw [h3]
  exact ⟨rfl, i2⟩
end Go.Pli

namespace Go.Pli
open Go Go.PM
theorem step_len {m : Im} (hs : saneP m = true) {f pc : Int} {s : List Tp} (h : (stepB m f pc s).2.2.1 = 0) : (stepB m f pc s).1.length ≤ s.length + 1 := by
 unfold stepB at h ⊢
 cases hf : inM m f
 ·rw [hf] at h; simp at h
 cases hp : sin pc (codeN m f : Int)
 ·rw [hf, hp] at h; simp at h
 simp only [hf, hp, Bool.and_self, Bool.not_true, cond_false] at h ⊢
 cases hn : (fnexts (insOf m f pc) pc).contains (codeN m f : Int)
 case true => rw [hn] at h; simp at h
 simp only [hn, cond_false] at h ⊢
 cases h6 : (insOf m f pc).1 == 6 <;> simp only [h6, cond_true, cond_false] at h ⊢
 ·have ho : (effB m (mtOf m f) (insOf m f pc)).2.1.length ≤ 1 := by
   have C : ∀ (x : Mt) (t : List Tp), (calledB x t).2.1.length ≤ 1 := fun x t => by
    unfold calledB
    cases x.2.2.1.1 != 5 <;> simp
   have P : ∀ {b : Bool} {x y : Eff}, x.2.1.length ≤ 1 → y.2.1.length ≤ 1 → (bif b then x else y).2.1.length ≤ 1 := fun {b} {x} {y} h1 h2 => by cases b; exact h2; exact h1
   have Q : ∀ {b : Bool} {x y : Eff × Bool × Unit}, x.1.2.1.length ≤ 1 → y.1.2.1.length ≤ 1 → (bif b then x else y).1.2.1.length ≤ 1 := fun {b} {x} {y} h1 h2 => by cases b; exact h2; exact h1
   have h1 : ∀ (a : List Tp) (t : Tp), ((a, [t], ()) : Eff).2.1.length ≤ 1 := fun _ _ => Nat.le_refl _
   have h0 : ∀ (a : List Tp), ((a, [], ()) : Eff).2.1.length ≤ 1 := fun _ => Nat.zero_le _
   have hp : (fplain (insOf m f pc).1).1.2.1.length ≤ 1 := by
    unfold fplain
    exact Q (h1 _ _) (Q (h0 _) (Q (h1 _ _) (Q (h1 _ _) (Q (h1 _ _) (Q (h0 _) (Q (h1 _ _) (Q (h1 _ _) (Q (h0 _) (Q (h0 _) (Q (h1 _ _) (Q (h1 _ _) (h0 _))))))))))))
   unfold effB
   exact P hp (P (h1 _ _) (P (h0 _) (P (h1 _ _) (P (h1 _ _) (P (h0 _) (P (h1 _ _) (P (h0 _) (P (C _ _) (P (C _ _) (P (h1 _ _) (P (P (h0 _) (h0 _)) (h0 _))))))))))))
  unfold stepE at h ⊢
  generalize effB m (mtOf m f) (insOf m f pc) = E at h ho ⊢
  cases hb : decide (s.length < E.1.length) || decide (s.length - E.1.length + E.2.1.length > 8) <;> simp only [hb, cond_true, cond_false] at h ⊢
  ·cases hz : ((s.drop (s.length - E.1.length)).zip E.1).all fun p => ffits m (insOf m f pc).1 p.1 p.2 <;> simp only [hz, cond_true, cond_false] at h ⊢
   ·exact Nat.zero_le _
   ·rw [List.length_append, List.length_take]; omega
  ·exact Nat.zero_le _
 ·cases hb : decide (s.length = 0) || decide (s.length ≥ 8) <;> simp only [hb, cond_true, cond_false] at h ⊢
  ·rw [List.length_append, List.length_drop]
   omega
  ·exact Nat.zero_le _
theorem merge_moves {m : Im} {o : Sh} {s : List Tp} (h : (mergeB m.1 o s).2.2.1 = true) (h' : (mergeB m.1 o s).2.1 = true) : (mergeB m.1 o s).1 ≠ o := by
 unfold mergeB at h h' ⊢
 cases h1 : o.1 <;> simp only [h1, Bool.not_true, Bool.not_false, cond_true, cond_false] at h h' ⊢
 ·intro e; rw [← e] at h1; cases h1
 ·cases h2 : decide (o.2.1.length ≠ s.length) <;> simp only [h2, cond_true, cond_false] at h h' ⊢
  ·cases h3 : (mergeO m.1 o.2.1 s).any fun t => t.1 == 0 <;> simp only [h3, cond_true, cond_false] at h h' ⊢
   ·intro e
    have e2 : mergeO m.1 o.2.1 s = o.2.1 := congrArg (fun z : Sh => z.2.1) e
    rw [e2] at h'
    simp at h'
   ·cases h
  ·cases h
theorem mergeT_len {m : Im} {o : Sh} {s : List Tp} (h : (mergeB m.1 o s).2.2.1 = true) : (mergeB m.1 o s).1.2.1.length = s.length := by
 unfold mergeB at h ⊢
 cases h1 : o.1 <;> simp only [h1, Bool.not_true, Bool.not_false, cond_true, cond_false] at h ⊢
 cases h2 : decide (o.2.1.length ≠ s.length) <;> simp only [h2, cond_true, cond_false] at h ⊢
 ·have hlen : o.2.1.length = s.length := by simpa using h2
  cases h3 : (mergeO m.1 o.2.1 s).any fun t => t.1 == 0 <;> simp only [h3, cond_true, cond_false] at h ⊢
  ·exact mergeO_len m.1 hlen
  ·cases h
 ·cases h
structure OneQ (m : Im) (N : Nat) (a : List Tp) (ts : List Int) (h : List Sh) (q : List Bool) (r : Bool × List Sh × List Bool × Unit) : Prop where
 gd : Gd m N r.2.1
 ql : r.2.2.1.length = N
 bel : Bel m h r.2.1
 tos : ∀ to ∈ ts, (sh r.2.1 to.toNat).1 = true ∧ leS m.1 a (sh r.2.1 to.toNat).2.1
 same : ∀ k, r.2.2.1.getD k false = false → q.getD k false = false ∧ sh r.2.1 k = sh h k
 new : ∀ k, (sh r.2.1 k).1 = true → (sh h k).1 = true ∧ (sh r.2.1 k).2.1.length = (sh h k).2.1.length ∨ (sh r.2.1 k).2.1.length = a.length
 pn : ∀ k, r.2.2.1.getD k false = true → q.getD k false = true ∨ (sh r.2.1 k).1 = true
 any : q.any id = true → r.2.2.1.any id = true
 mov : q.any id = false → r.2.2.1.any id = true → r.2.1 ≠ h
theorem any_set {q : List Bool} {k : Nat} (hk : k < q.length) : (q.set k true).any id = true := List.any_eq_true.2 ⟨true, by
 have := List.getElem_mem (l := q.set k true) (n := k) (by rwa [List.length_set])
 rwa [List.getElem_set_self] at this, rfl⟩
theorem bel_set {m : Im} {N : Nat} {h : List Sh} (hg : Gd m N h) {k : Nat} (hk : k < h.length) {s : Sh} (h1 : s.1 = true) (h2 : (sh h k).1 = true → leS m.1 (sh h k).2.1 s.2.1) : Bel m h (h.set k s) := fun j hj => by
 rw [sh_set hk]
 by_cases e : j = k
 ·rw [if_pos e]; subst e; exact ⟨h1, h2 hj⟩
 ·rw [if_neg e]; exact ⟨hj, leS_refl (hg.at' j).2⟩
theorem gd_set {m : Im} {N : Nat} {h : List Sh} (hg : Gd m N h) {k : Nat} {s : Sh} (h1 : s.1 = true) (h2 : s.2.1.length ≤ 8 ∧ gS (nC m) s.2.1) : Gd m N (h.set k s) :=
 ⟨by rw [List.length_set, hg.len], fun x hx => by
  rcases List.mem_or_eq_of_mem_set hx with hx | rfl
  ·exact hg.good x hx
  ·exact h2, fun x hx hf => by
  rcases List.mem_or_eq_of_mem_set hx with hx | rfl
  ·exact hg.bare x hx hf
  ·rw [h1] at hf; cases hf⟩
theorem one_facts {m : Im} {N : Nat} {a : List Tp} (ha8 : a.length ≤ 8) (ha : gS (nC m) a) : ∀ (ts : List Int) (h : List Sh) (q : List Bool), Gd m N h → q.length = N → (∀ to ∈ ts, 0 ≤ to ∧ to < (N : Int)) →
  (oneF m.1 a ts h q).1 = true → OneQ m N a ts h q (oneF m.1 a ts h q)
 | [], h, q, hg, hq, _, _ => ⟨hg, hq, bel_refl hg, fun _ h => (by cases h), fun _ h => ⟨h, rfl⟩, fun _ h => .inl ⟨h, rfl⟩, fun _ h => .inl h, fun h => h, fun h1 h2 => by rw [show (oneF m.1 a [] h q).2.2.1 = q from rfl, h1] at h2; cases h2⟩
 | to :: ts, h, q, hg, hq, ht, hr => by
  obtain ⟨t0, t1⟩ := ht to (List.mem_cons_self ..)
  have hk : to.toNat < h.length := by rw [hg.len]; omega
  have hkq : to.toNat < q.length := by rw [hq]; omega
  have ht' : ∀ x ∈ ts, 0 ≤ x ∧ x < (N : Int) := fun x hx => ht x (List.mem_cons_of_mem _ hx)
  unfold oneF at hr ⊢
  have hmf := merge_facts (m := m) (o := h.getD to.toNat zSh) (hg.at' to.toNat) ha8 ha
  have hmm := merge_moves (m := m) (o := h.getD to.toNat zSh) (s := a)
  have hml := mergeT_len (m := m) (o := h.getD to.toNat zSh) (s := a)
  generalize hM : mergeB m.1 (h.getD to.toNat zSh) a = M at hr hmf hmm hml ⊢
  cases h1 : M.2.2.1 <;> simp only [h1, Bool.not_true, Bool.not_false, cond_true, cond_false] at hr ⊢
  ·cases hr
  obtain ⟨m1, m2, m3, m4, m5⟩ := hmf h1
  cases h2 : M.2.1 <;> simp only [h2, cond_true, cond_false] at hr ⊢
  ·have I := one_facts ha8 ha ts h q hg hq ht' hr
   obtain ⟨e1, e2⟩ := m5 h2
   refine ⟨I.gd, I.ql, I.bel, fun x hx => ?_, I.same, I.new, I.pn, I.any, I.mov⟩
   rcases List.mem_cons.1 hx with rfl | hx
   ·obtain ⟨b1, b2⟩ := I.bel x.toNat e1
    rw [e2] at m3
    exact ⟨b1, leS_trans m3 b2⟩
   ·exact I.tos x hx
  ·have hg' := gd_set (k := to.toNat) hg m2 m1
   have hb := bel_set hg hk m2 m4
   have I := one_facts ha8 ha ts (h.set to.toNat M.1) (q.set to.toNat true) hg' (by rw [List.length_set, hq]) ht' hr
   have hne : h.set to.toNat M.1 ≠ h := fun e => hmm h1 h2 (by
    have := congrArg (fun z => sh z to.toNat) e
    simp only [sh_set hk] at this
    exact this)
   refine ⟨I.gd, I.ql, bel_trans hb I.bel, fun x hx => ?_, fun k hk0 => ?_, fun k hk1 => ?_, fun k hk1 => ?_, fun _ => I.any (any_set hkq), fun _ _ e => ?_⟩
   ·rcases List.mem_cons.1 hx with rfl | hx
    ·have e1 : sh (h.set x.toNat M.1) x.toNat = M.1 := by rw [sh_set hk, if_pos rfl]
     obtain ⟨b1, b2⟩ := I.bel x.toNat (by rw [e1]; exact m2)
     rw [e1] at b2
     exact ⟨b1, leS_trans m3 b2⟩
    ·exact I.tos x hx
   ·obtain ⟨i1, i2⟩ := I.same k hk0
    have hkn : k ≠ to.toNat := fun e => by
     rw [e, List.getD_eq_getElem?_getD, List.getElem?_set_self hkq] at i1
     cases i1
    rw [sh_set hk, if_neg hkn] at i2
    rw [List.getD_eq_getElem?_getD, List.getElem?_set_ne (fun e => hkn e.symm), ← List.getD_eq_getElem?_getD] at i1
    exact ⟨i1, i2⟩
   ·rcases I.new k hk1 with ⟨i1, i2⟩ | i
    ·by_cases e : k = to.toNat
     ·rw [sh_set hk, if_pos e] at i2
      exact .inr (by rw [i2, hml h1])
     ·rw [sh_set hk, if_neg e] at i1 i2
      exact .inl ⟨i1, i2⟩
    ·exact .inr i
   ·rcases I.pn k hk1 with i | i
    ·by_cases e : k = to.toNat
     ·refine .inr (I.bel k ?_).1
      rw [sh_set hk, if_pos e]
      exact m2
     ·rw [List.getD_eq_getElem?_getD, List.getElem?_set_ne (fun e' => e e'.symm), ← List.getD_eq_getElem?_getD] at i
      exact .inl i
    ·exact .inr i
   ·refine hne (bel_anti (N := N) hg' hg ?_ hb)
    have := I.bel
    rw [e] at this
    exact this
theorem one_below {m : Im} {N : Nat} {a : List Tp} {S : List Sh} (hS : Gd m N S) (ha8 : a.length ≤ 8) (ha : gS (nC m) a) : ∀ (ts : List Int) (h : List Sh) (q : List Bool), Gd m N h → Bel m h S → (∀ to ∈ ts, (0 ≤ to ∧ to < (N : Int)) ∧ (sh S to.toNat).1 = true ∧ leS m.1 a (sh S to.toNat).2.1) →
  (oneF m.1 a ts h q).1 = true ∧ Bel m (oneF m.1 a ts h q).2.1 S
 | [], h, q, hg, hb, _ => ⟨rfl, hb⟩
 | to :: ts, h, q, hg, hb, ht => by
  obtain ⟨⟨t0, t1⟩, t2, t3⟩ := ht to (List.mem_cons_self ..)
  have hk : to.toNat < h.length := by rw [hg.len]; omega
  have ht' := fun x hx => ht x (List.mem_cons_of_mem _ hx)
  unfold oneF
  have hmf := merge_facts (m := m) (o := h.getD to.toNat zSh) (hg.at' to.toNat) ha8 ha
  have hmb := merge_below (m := m) (o := h.getD to.toNat zSh) (S := sh S to.toNat) (hg.at' to.toNat).2 (hS.at' to.toNat).2 ha (fun h1 => (hb to.toNat h1).2) t3
  generalize hM : mergeB m.1 (h.getD to.toNat zSh) a = M at hmf hmb ⊢
  obtain ⟨b1, b2⟩ := hmb
  obtain ⟨m1, m2, m3, m4, m5⟩ := hmf b1
  rw [b1]
  simp only [Bool.not_true, cond_false]
  cases h2 : M.2.1 <;> simp only [cond_true, cond_false]
  ·exact one_below hS ha8 ha ts h q hg hb ht'
  ·refine one_below hS ha8 ha ts _ _ (gd_set hg m2 m1) (fun k hk1 => ?_) ht'
   rw [sh_set hk] at hk1 ⊢
   by_cases e : k = to.toNat
   ·rw [if_pos e] at hk1 ⊢; subst e; exact ⟨t2, b2⟩
   ·rw [if_neg e] at hk1 ⊢; exact hb k hk1
def DC (h : List Sh) : Prop := ∀ k, (sh h k).1 = true → ∀ j, j < (sh h k).2.1.length → ∃ k', (sh h k').1 = true ∧ (sh h k').2.1.length = j
structure WJ (m : Im) (f : Int) (h : List Sh) (q : List Bool) : Prop where
 gd : Gd m (codeN m f) h
 ql : q.length = codeN m f
 start : (sh h 0).1 = true ∧ (sh h 0).2.1 = []
 cov : ∀ pc, (sh h pc).1 = true → q.getD pc false = false → Cov m f h pc
 dc : DC h
 pend : ∀ pc, q.getD pc false = true → (sh h pc).1 = true
theorem bel_start {m : Im} {h h' : List Sh} (hb : Bel m h h') (hs : (sh h 0).1 = true ∧ (sh h 0).2.1 = []) : (sh h' 0).1 = true ∧ (sh h' 0).2.1 = [] := by
 obtain ⟨i1, i2⟩ := hb 0 hs.1
 refine ⟨i1, ?_⟩
 have := leS_len i2
 rw [hs.2] at this
 exact List.length_eq_zero_iff.1 this.symm
theorem cov_bel {m : Im} {f : Int} {h h' : List Sh} (hb : Bel m h h') {pc : Nat} (e : sh h' pc = sh h pc) (hc : Cov m f h pc) : Cov m f h' pc := by
 unfold Cov at hc ⊢
 rw [e]
 refine ⟨hc.1, fun to ht => ?_⟩
 obtain ⟨i1, i2⟩ := hc.2 to ht
 obtain ⟨j1, j2⟩ := hb _ i1
 exact ⟨j1, leS_trans i2 j2⟩
theorem q_find {q : List Bool} (h : q.any id = true) : q.findIdx id < q.length ∧ q.getD (q.findIdx id) false = true := by
 have hk := find_lt h
 refine ⟨hk, ?_⟩
 have := List.findIdx_getElem (p := id) (xs := q) (w := hk)
 rw [getD_some (List.getElem?_eq_getElem hk)]
 exact this
theorem dc_one {m : Im} {N : Nat} {a : List Tp} {ts : List Int} {h : List Sh} {q : List Bool} {r : Bool × List Sh × List Bool × Unit} (O : OneQ m N a ts h q r) (hd : DC h) {pc : Nat} (hp : (sh h pc).1 = true) (ha : a.length ≤ (sh h pc).2.1.length + 1) : DC r.2.1 := by
 have up : ∀ j, (∃ k', (sh h k').1 = true ∧ (sh h k').2.1.length = j) → ∃ k', (sh r.2.1 k').1 = true ∧ (sh r.2.1 k').2.1.length = j := by
  rintro j ⟨k', h1, h2⟩
  obtain ⟨b1, b2⟩ := O.bel k' h1
  exact ⟨k', b1, by rw [← leS_len b2]; exact h2⟩
 intro k hk j hj
 rcases O.new k hk with ⟨i1, i2⟩ | i
 ·exact up j (hd k i1 j (by omega))
 ·by_cases e : j = (sh h pc).2.1.length
  ·exact up j ⟨pc, hp, e.symm⟩
  ·exact up j (hd pc hp j (by omega))
theorem tone_next {m : Im} (hs : saneP m = true) {f : Int} {h : List Sh} {q : List Bool} (W : WJ m f h q) (ha : q.any id = true)
  (hr : (toneB m f (q.findIdx id : Int) h (q.set (q.findIdx id) false)).1 = true) :
  WJ m f (toneB m f (q.findIdx id : Int) h (q.set (q.findIdx id) false)).2.1 (toneB m f (q.findIdx id : Int) h (q.set (q.findIdx id) false)).2.2.1 := by
 obtain ⟨hk, htrue⟩ := q_find ha
 generalize q.findIdx id = pc at hk htrue hr ⊢
 have hp := W.pend pc htrue
 unfold toneB at hr ⊢
 rw [Int.toNat_natCast] at hr ⊢
 cases he : (stepB m f (pc : Int) (h.getD pc zSh).2.1).2.2.1 != 0 <;> simp only [he, cond_true, cond_false] at hr ⊢
 ·have he0 : (stepB m f (pc : Int) (h.getD pc zSh).2.1).2.2.1 = 0 := by simpa using he
  obtain ⟨-, -, h8, hto⟩ := step_facts hs he0
  have hlen := step_len hs he0
  have O := one_facts (N := codeN m f) h8 (step_good hs (W.gd.at' pc).2) (stepB m f (pc : Int) (h.getD pc zSh).2.1).2.1 h (q.set pc false) W.gd (by rw [List.length_set, W.ql]) hto hr
  have hO := dc_one O W.dc hp hlen
  have hst := bel_start O.bel W.start
  refine ⟨O.gd, O.ql, hst, fun k hk1 hk2 => ?_, hO, fun k hk1 => ?_⟩
  ·obtain ⟨s1, s2⟩ := O.same k hk2
   by_cases e : k = pc
   ·subst e
    refine ⟨by rw [s2]; exact he0, fun to ht => ?_⟩
    rw [s2] at ht ⊢
    exact O.tos to ht
   ·rw [List.getD_eq_getElem?_getD, List.getElem?_set_ne (fun e' => e e'.symm), ← List.getD_eq_getElem?_getD] at s1
    exact cov_bel O.bel s2 (W.cov k (by rw [← s2]; exact hk1) s1)
  ·rcases O.pn k hk1 with i | i
   ·by_cases e : k = pc
    ·subst e
     rw [List.getD_eq_getElem?_getD, List.getElem?_set_self hk] at i
     cases i
    ·rw [List.getD_eq_getElem?_getD, List.getElem?_set_ne (fun e' => e e'.symm), ← List.getD_eq_getElem?_getD] at i
     exact (O.bel k (W.pend k i)).1
   ·exact i
 ·cases hr
theorem one_pend {m : Im} (hs : saneP m = true) {f : Int} (hf : inM m f = true) {h : List Sh} {q : List Bool} (hg : Gd m (codeN m f) h) (hq : q.length = codeN m f) (ha : q.any id = true) :
  oneP m f (q.findIdx id : Int) h (q.set (q.findIdx id) false) = true := by
 obtain ⟨hk, -⟩ := q_find ha
 rw [hq] at hk
 exact OneP.to ⟨hs, hf, by simp only [sin, Bool.and_eq_true, decide_eq_true_eq]; omega, hg.len, by rw [List.length_set, hq], fun s hs => okL_of (by have := (hg.good s hs).1; omega)⟩
theorem walk_right {m : Im} (hs : saneP m = true) {f : Int} (hf : inM m f = true) : ∀ (n : Nat) (h : List Sh) (q : List Bool) (r : List Sh × Int × Int × Unit), WJ m f h q → walkM m f n h q = some r → r.2.2.1 = 0 → PF m f r.1 ∧ DC r.1
 | 0, _, _, _, _, h, _ => by cases h
 | n + 1, h, q, r, W, hr, h0 => by
  unfold walkM at hr
  cases ha : q.any id <;> simp only [ha, cond_true, cond_false] at hr
  ·have := Option.some.inj hr
   subst this
   refine ⟨⟨W.gd, W.start, fun pc hp => W.cov pc hp ?_⟩, W.dc⟩
   by_cases hk : pc < q.length
   ·rw [getD_some (List.getElem?_eq_getElem hk)]
    cases hx : q[pc]
    ·rfl
    ·exact absurd (List.any_eq_true.2 ⟨_, List.getElem_mem hk, hx⟩) (by rw [ha]; exact Bool.false_ne_true)
   ·rw [getD_out (by omega)]
  ·unfold tone at hr
   rw [one_pend hs hf W.gd W.ql ha] at hr
   simp only [cond_true, Option.bind_some] at hr
   cases hb : (toneB m f (q.findIdx id : Int) h (q.set (q.findIdx id) false)).1 <;> simp only [hb, Bool.not_true, Bool.not_false, cond_true, cond_false] at hr
   ·have := Option.some.inj hr
    subst this
    cases h0
   ·exact walk_right hs hf n _ _ r (tone_next hs W ha hb) hr h0
theorem walk_below {m : Im} (hs : saneP m = true) {f : Int} (hf : inM m f = true) {S : List Sh} (hS : PF m f S) : ∀ (n : Nat) (h : List Sh) (q : List Bool) (r : List Sh × Int × Int × Unit), WJ m f h q → Bel m h S → walkM m f n h q = some r → r.2.2.1 = 0 ∧ Bel m r.1 S
 | 0, _, _, _, _, _, h => by cases h
 | n + 1, h, q, r, W, hb, hr => by
  unfold walkM at hr
  cases ha : q.any id <;> simp only [ha, cond_true, cond_false] at hr
  ·have := Option.some.inj hr
   subst this
   exact ⟨rfl, hb⟩
  ·unfold tone at hr
   rw [one_pend hs hf W.gd W.ql ha] at hr
   simp only [cond_true, Option.bind_some] at hr
   have key : (toneB m f (q.findIdx id : Int) h (q.set (q.findIdx id) false)).1 = true ∧ Bel m (toneB m f (q.findIdx id : Int) h (q.set (q.findIdx id) false)).2.1 S := by
    obtain ⟨hk, htrue⟩ := q_find ha
    generalize q.findIdx id = pc at hk htrue
    have hp := W.pend pc htrue
    obtain ⟨p1, p2⟩ := hb pc hp
    obtain ⟨c1, c2⟩ := hS.cov pc p1
    obtain ⟨s1, s2, s3⟩ := step_mono hs p2 c1
    obtain ⟨-, -, h8, hto⟩ := step_facts hs s1
    unfold toneB
    rw [Int.toNat_natCast]
    rw [show (stepB m f (pc : Int) (h.getD pc zSh).2.1).2.2.1 = 0 from s1]
    simp only [bne_self_eq_false, cond_false]
    refine one_below hS.gd h8 (step_good hs (W.gd.at' pc).2) _ h _ W.gd hb fun to ht => ⟨hto to ht, ?_⟩
    rw [show (stepB m f (pc : Int) (h.getD pc zSh).2.1).2.1 = _ from s2] at ht
    obtain ⟨d1, d2⟩ := c2 to ht
    exact ⟨d1, leS_trans s3 d2⟩
   rw [key.1] at hr
   simp only [Bool.not_true, cond_false] at hr
   exact walk_below hs hf hS n _ _ r (tone_next hs W ha key.1) key.2 hr
theorem sh_start {m : Im} {f : Int} (hc : 0 < codeN m f) (k : Nat) : sh (startH m f) k = if k = 0 then (true, [], ()) else zSh := by
 unfold startH
 rw [sh_set (by simpa using hc)]
 by_cases e : k = 0
 ·rw [if_pos e, if_pos e]
 ·rw [if_neg e, if_neg e]
  unfold sh
  by_cases hk : k < codeN m f
  ·rw [getD_some (List.getElem?_eq_getElem (by simpa using hk))]; simp
  ·rw [getD_out (by simpa using hk)]
theorem start_gd {m : Im} {f : Int} : Gd m (codeN m f) (startH m f) := by
 refine ⟨by simp [startH], fun s hs => ?_, fun s hs h => ?_⟩ <;>
  rcases List.mem_or_eq_of_mem_set hs with hs | rfl
 ·rw [List.mem_replicate] at hs
  rw [hs.2]
  exact ⟨Nat.zero_le _, fun _ h => by cases h⟩
 ·exact ⟨Nat.zero_le _, fun _ h => by cases h⟩
 ·rw [List.mem_replicate] at hs
  exact hs.2
 ·cases h
theorem start_wj {m : Im} (hs : saneP m = true) {f : Int} (hf : inM m f = true) : WJ m f (startH m f) ((List.replicate (codeN m f) false).set 0 true) := by
 have hc := (sane_code hs hf).1
 have sq : ∀ k, ((List.replicate (codeN m f) false).set 0 true).getD k false = decide (k = 0) := fun k => by
  by_cases e : k = 0
  ·subst e
   rw [List.getD_eq_getElem?_getD, List.getElem?_set_self (by simpa using hc)]; rfl
  ·rw [List.getD_eq_getElem?_getD, List.getElem?_set_ne (fun e' => e e'.symm), decide_eq_false e]
   rw [List.getElem?_replicate]
   split <;> rfl
 refine ⟨start_gd, by simp, by rw [sh_start hc]; exact ⟨rfl, rfl⟩, fun pc h1 h2 => ?_, fun k h1 j hj => ?_, fun k h => ?_⟩
 ·rw [sq] at h2
  rw [sh_start hc, if_neg (by simpa using h2)] at h1
  cases h1
 ·rw [sh_start hc] at hj
  by_cases e : k = 0
  ·rw [if_pos e] at hj; cases hj
  ·rw [if_neg e] at hj; cases hj
 ·rw [sq] at h
  rw [sh_start hc, if_pos (by simpa using h)]
theorem start_below {m : Im} (hs : saneP m = true) {f : Int} (hf : inM m f = true) {S : List Sh} (hS : PF m f S) : Bel m (startH m f) S := fun k h => by
 have hc := (sane_code hs hf).1
 rw [sh_start hc] at h ⊢
 by_cases e : k = 0
 ·subst e
  rw [if_pos rfl, hS.start.2]
  exact ⟨hS.start.1, trivial⟩
 ·rw [if_neg e] at h; cases h
end Go.Pli

namespace Go.Pli
open Go Go.PM
structure FlowQ (m : Im) (N : Nat) (t : Bool) (h : List Sh) (r : Bool × List Sh) : Prop where
 gd : Gd m N r.2
 bel : Bel m h r.2
 still : r.1 = false → t = false ∧ r.2 = h
 moved : r.1 = true → t = true ∨ r.2 ≠ h
theorem flowQ_refl {m : Im} {N : Nat} {t : Bool} {h : List Sh} (hg : Gd m N h) : FlowQ m N t h (t, h) := ⟨hg, bel_refl hg, fun h => ⟨h, rfl⟩, fun h => .inl h⟩
theorem flowQ_trans {m : Im} {N : Nat} {t : Bool} {h : List Sh} {r z : Bool × List Sh} (hg : Gd m N h) (h1 : FlowQ m N t h r) (h2 : FlowQ m N r.1 r.2 z) : FlowQ m N t h z :=
 ⟨h2.gd, bel_trans h1.bel h2.bel, fun hz => by
  obtain ⟨a, b⟩ := h2.still hz
  obtain ⟨c, d⟩ := h1.still a
  exact ⟨c, b.trans d⟩, fun hz => by
  rcases h2.moved hz with a | a
  ·rcases h1.moved a with b | b
   ·exact .inl b
   ·refine .inr fun e => b (bel_anti h1.gd hg ?_ h1.bel)
    rw [← e]; exact h2.bel
  ·refine .inr fun e => a ?_
   have : Bel m r.2 h := by rw [← e]; exact h2.bel
   rw [e]
   exact bel_anti hg h1.gd h1.bel this⟩
theorem flowE_one {m : Im} {N : Nat} {a : List Tp} : ∀ (ts : List Int) (h : List Sh) (q : List Bool), q.length = N → (∀ to ∈ ts, 0 ≤ to ∧ to < (N : Int)) →
  flowE m.1 a ts (q.any id) h = bif (oneF m.1 a ts h q).1 then some ((oneF m.1 a ts h q).2.2.1.any id, (oneF m.1 a ts h q).2.1) else none
 | [], _, _, _, _ => rfl
 | to :: ts, h, q, hq, ht => by
  obtain ⟨t0, t1⟩ := ht to (List.mem_cons_self ..)
  have hkq : to.toNat < q.length := by rw [hq]; omega
  have ht' : ∀ x ∈ ts, 0 ≤ x ∧ x < (N : Int) := fun x hx => ht x (List.mem_cons_of_mem _ hx)
  unfold flowE oneF
  generalize mergeB m.1 (h.getD to.toNat zSh) a = M
  cases h1 : M.2.2.1 <;> simp only [Bool.not_true, Bool.not_false, cond_true, cond_false]
  cases h2 : M.2.1 <;> simp only [cond_true, cond_false]
  ·exact flowE_one ts h q hq ht'
  ·have := flowE_one (m := m) (a := a) ts (h.set to.toNat M.1) (q.set to.toNat true) (by rw [List.length_set, hq]) ht'
   rw [any_set hkq] at this
   exact this
theorem any_rep {N : Nat} (hN : 0 < N) (t : Bool) : (List.replicate N t).any id = t := by
 cases t
 ·cases h : (List.replicate N false).any id
  ·rfl
  ·obtain ⟨x, hx, hx'⟩ := List.any_eq_true.1 h
   rw [List.mem_replicate] at hx
   rw [hx.2] at hx'; cases hx'
 ·exact List.any_eq_true.2 ⟨true, List.mem_replicate.2 ⟨by omega, rfl⟩, rfl⟩
theorem all_same {m : Im} {N : Nat} {a : List Tp} {ts : List Int} {h : List Sh} {q : List Bool} {r : Bool × List Sh × List Bool × Unit} (O : OneQ m N a ts h q r) (hg : Gd m N h) (h0 : r.2.2.1.any id = false) : r.2.1 = h := by
 have hk : ∀ k, sh r.2.1 k = sh h k := fun k => (O.same k (by
  by_cases hk : k < r.2.2.1.length
  ·rw [getD_some (List.getElem?_eq_getElem hk)]
   cases hx : r.2.2.1[k]
   ·rfl
   ·exact absurd (List.any_eq_true.2 ⟨_, List.getElem_mem hk, hx⟩) (by rw [h0]; exact Bool.false_ne_true)
  ·rw [getD_out (by omega)])).2
 refine List.ext_getElem (by rw [O.gd.len, hg.len]) fun k k1 k2 => ?_
 have := hk k
 unfold sh at this
 rwa [getD_some (List.getElem?_eq_getElem k1), getD_some (List.getElem?_eq_getElem k2)] at this
theorem flowP_facts {m : Im} (hs : saneP m = true) {f : Int} {pc : Nat} {t : Bool} {h : List Sh} {r : Bool × List Sh} (hg : Gd m (codeN m f) h) (hr : flowP m f pc t h = some r) :
  FlowQ m (codeN m f) t h r ∧ (r.1 = false → (sh h pc).1 = true → Cov m f h pc) := by
 unfold flowP at hr
 cases h1 : (h.getD pc zSh).1 <;> simp only [h1, Bool.not_true, Bool.not_false, cond_true, cond_false] at hr
 ·have := Option.some.inj hr
  subst this
  exact ⟨flowQ_refl hg, fun _ h2 => by rw [show (sh h pc).1 = false from h1] at h2; cases h2⟩
 ·cases he : (stepB m f (pc : Int) (h.getD pc zSh).2.1).2.2.1 != 0 <;> simp only [he, cond_true, cond_false] at hr
  ·have he0 : (stepB m f (pc : Int) (h.getD pc zSh).2.1).2.2.1 = 0 := by simpa using he
   obtain ⟨-, hp, h8, hto⟩ := step_facts hs he0
   have hN : 0 < codeN m f := by simp only [sin, Bool.and_eq_true, decide_eq_true_eq] at hp; omega
   have hE := flowE_one (m := m) (N := codeN m f) (a := (stepB m f (pc : Int) (h.getD pc zSh).2.1).1) (stepB m f (pc : Int) (h.getD pc zSh).2.1).2.1 h (List.replicate (codeN m f) t) (by simp) hto
   rw [any_rep hN, hr] at hE
   have O := one_facts (N := codeN m f) h8 (step_good hs (hg.at' pc).2) (stepB m f (pc : Int) (h.getD pc zSh).2.1).2.1 h (List.replicate (codeN m f) t) hg (by simp) hto
   generalize oneF m.1 (stepB m f (pc : Int) (h.getD pc zSh).2.1).1 (stepB m f (pc : Int) (h.getD pc zSh).2.1).2.1 h (List.replicate (codeN m f) t) = z at hE O
   cases hz : z.1 <;> rw [hz] at hE <;> simp only [cond_true, cond_false] at hE
   ·cases hE
   have O := O hz
   have := Option.some.inj hE
   subst this
   refine ⟨⟨O.gd, O.bel, fun h0 => ⟨?_, all_same O hg h0⟩, fun h1 => ?_⟩, fun h0 _ => ⟨he0, fun to ht => ?_⟩⟩
   ·cases t
    ·rfl
    ·have := O.any (any_rep hN true)
     rw [show z.2.2.1.any id = false from h0] at this; cases this
   ·cases t
    ·exact .inr (O.mov (any_rep hN false) h1)
    ·exact .inl rfl
   ·have := O.tos to ht
    rw [all_same O hg h0] at this
    exact this
  ·cases hr
theorem flowR_facts {m : Im} (hs : saneP m = true) {f : Int} : ∀ (n : Nat) (t : Bool) (h : List Sh) (r : Bool × List Sh), Gd m (codeN m f) h → flowR m f n t h = some r →
  FlowQ m (codeN m f) t h r ∧ (r.1 = false → ∀ pc, pc < n → (sh h pc).1 = true → Cov m f h pc)
 | 0, t, h, r, hg, hr => by
  have := Option.some.inj hr
  subst this
  exact ⟨flowQ_refl hg, fun _ _ h => (by cases h)⟩
 | n + 1, t, h, r, hg, hr => by
  unfold flowR at hr
  cases hz : flowP m f n t h with
  | none => rw [hz] at hr; cases hr
  | some z =>
   rw [hz] at hr
   simp only [Option.bind_some] at hr
   obtain ⟨F1, F2⟩ := flowP_facts hs hg hz
   obtain ⟨G1, G2⟩ := flowR_facts hs n z.1 z.2 r F1.gd hr
   refine ⟨flowQ_trans hg F1 G1, fun h0 pc hp hseen => ?_⟩
   obtain ⟨a, b⟩ := G1.still h0
   obtain ⟨c, d⟩ := F1.still a
   by_cases e : pc = n
   ·subst e; exact F2 a hseen
   ·have := G2 h0 pc (by omega)
    rw [d] at this
    exact this hseen
theorem flowE_below {m : Im} {N : Nat} {a : List Tp} {S : List Sh} (hS : Gd m N S) (ha8 : a.length ≤ 8) (ha : gS (nC m) a) (hN : 0 < N) {ts : List Int} {t : Bool} {h : List Sh} (hg : Gd m N h) (hb : Bel m h S) (ht : ∀ to ∈ ts, (0 ≤ to ∧ to < (N : Int)) ∧ (sh S to.toNat).1 = true ∧ leS m.1 a (sh S to.toNat).2.1) :
  ∃ r, flowE m.1 a ts t h = some r ∧ Bel m r.2 S := by
 have hE := flowE_one (m := m) (N := N) (a := a) ts h (List.replicate N t) (by simp) (fun to h => (ht to h).1)
 rw [any_rep hN] at hE
 obtain ⟨b1, b2⟩ := one_below hS ha8 ha ts h (List.replicate N t) hg hb ht
 rw [b1] at hE
 exact ⟨_, hE, b2⟩
theorem flowR_below {m : Im} (hs : saneP m = true) {f : Int} {S : List Sh} (hS : PF m f S) : ∀ (n : Nat) (t : Bool) (h : List Sh), Gd m (codeN m f) h → Bel m h S → ∃ r, flowR m f n t h = some r ∧ Bel m r.2 S
 | 0, t, h, _, hb => ⟨_, rfl, hb⟩
 | n + 1, t, h, hg, hb => by
  have key : ∃ r, flowP m f n t h = some r ∧ Bel m r.2 S := by
   unfold flowP
   cases h1 : (h.getD n zSh).1 <;> simp only [Bool.not_true, Bool.not_false, cond_true, cond_false]
   ·exact ⟨_, rfl, hb⟩
   ·obtain ⟨p1, p2⟩ := hb n h1
    obtain ⟨c1, c2⟩ := hS.cov n p1
    obtain ⟨s1, s2, s3⟩ := step_mono hs p2 c1
    obtain ⟨-, hp, h8, hto⟩ := step_facts hs s1
    have hN : 0 < codeN m f := by simp only [sin, Bool.and_eq_true, decide_eq_true_eq] at hp; omega
    rw [show (stepB m f (n : Int) (h.getD n zSh).2.1).2.2.1 = 0 from s1]
    simp only [bne_self_eq_false, cond_false]
    refine flowE_below hS.gd h8 (step_good hs (hg.at' n).2) hN hg hb fun to ht => ⟨hto to ht, ?_⟩
    rw [show (stepB m f (n : Int) (h.getD n zSh).2.1).2.1 = _ from s2] at ht
    obtain ⟨d1, d2⟩ := c2 to ht
    exact ⟨d1, leS_trans s3 d2⟩
  obtain ⟨z, hz, hzb⟩ := key
  obtain ⟨F1, -⟩ := flowP_facts hs hg hz
  obtain ⟨r, hr, hrb⟩ := flowR_below hs hS n z.1 z.2 F1.gd hzb
  unfold flowR
  rw [hz]
  exact ⟨r, hr, hrb⟩
def h8 (l : List Cl) (t : Tp) : Nat := if t.1 = 4 then 8 else if t.1 = 3 then (chain l t.2.1).length - 1 else 0
theorem h8_le {l : List Cl} (hl : l.length ≤ 8) (t : Tp) : h8 l t ≤ 8 := by
 have := chain_le hl t.2.1
 unfold h8
 split
 ·omega
 ·split <;> omega
theorem h8_sub {l : List Cl} (hl : l.length ≤ 8) {a b : Tp} (ga : gT (l.length : Int) a) (gb : gT (l.length : Int) b) (h : ksub l a b = true) : a = b ∨ h8 l b < h8 l a := by
 have hc := chain_le hl b.2.1
 rcases sub_iff.1 h with ⟨a4, hb⟩ | ⟨a3, b3, hab⟩ | ⟨h, _⟩
 ·by_cases b4 : b.1 = 4
  ·have e1 := gT_ok ga a4
   have e2 := gT_ok gb b4
   exact .inl (tp_ext (by omega) (by omega))
  ·refine .inr ?_
   unfold h8
   rw [if_neg b4, if_pos a4]
   split <;> omega
 ·by_cases e : b.2.1 = a.2.1
  ·exact .inl (tp_ext (by omega) e.symm)
  ·refine .inr ?_
   have hb := below_iff.1 hab
   have := (chain_up _ _ (Nat.lt_succ_self _) hb.2.2.2).2 e
   have h1 : 0 < (chain l b.2.1).length := by rw [chain_step hb.1]; simp
   unfold h8
   rw [if_neg (by omega), if_pos b3, if_neg (by omega), if_pos a3]
   omega
 ·exact .inl h
def hs8 (l : List Cl) (s : List Tp) : Nat := sumL (s.map (h8 l))
theorem hs8_le {l : List Cl} (hl : l.length ≤ 8) : ∀ s : List Tp, hs8 l s ≤ 8 * s.length
 | [] => Nat.le_refl _
 | t :: s => by
  have := hs8_le hl s
  have := h8_le hl t
  unfold hs8 at *
  simp only [List.map_cons, sumL, List.length_cons]
  omega
theorem hs8_leS {l : List Cl} (hl : l.length ≤ 8) : ∀ {a b : List Tp}, gS (l.length : Int) a → gS (l.length : Int) b → leS l a b → hs8 l b ≤ hs8 l a ∧ (a ≠ b → hs8 l b < hs8 l a)
 | [], [], _, _, _ => ⟨Nat.le_refl _, fun h => absurd rfl h⟩
 | x :: a, y :: b, ga, gb, h => by
  obtain ⟨i1, i2⟩ := hs8_leS hl (gS_cons ga).2 (gS_cons gb).2 h.2
  have j := h8_sub hl (gS_cons ga).1 (gS_cons gb).1 h.1
  unfold hs8 at *
  simp only [List.map_cons, sumL]
  rcases j with rfl | j
  ·exact ⟨by omega, fun hne => by have := i2 fun e => hne (by rw [e]); omega⟩
  ·exact ⟨by omega, fun _ => by omega⟩
 | [], _ :: _, _, _, h => h.elim
 | _ :: _, [], _, _, h => h.elim
def pw (l : List Cl) (S h : Sh) : Nat := if S.1 then (if h.1 then hs8 l h.2.1 else 1 + 8 * S.2.1.length) else 0
def pot (l : List Cl) (N : Nat) (S h : List Sh) : Nat := sumL ((List.range N).map fun k => pw l (sh S k) (sh h k))
theorem sumL_le {α : Type} {f g : α → Nat} : ∀ (l : List α), (∀ x ∈ l, f x ≤ g x) → sumL (l.map f) ≤ sumL (l.map g)
 | [], _ => Nat.le_refl _
 | x :: l, h => by
  have := sumL_le l fun y hy => h y (List.mem_cons_of_mem _ hy)
  have := h x (List.mem_cons_self ..)
  simp only [List.map_cons, sumL]
  omega
theorem sumL_lt {α : Type} {f g : α → Nat} : ∀ (l : List α), (∀ x ∈ l, f x ≤ g x) → (∃ x ∈ l, f x < g x) → sumL (l.map f) < sumL (l.map g)
 | [], _, h => by obtain ⟨x, hx, _⟩ := h; cases hx
 | x :: l, h, ⟨y, hy, hlt⟩ => by
  have i := sumL_le l fun y hy => h y (List.mem_cons_of_mem _ hy)
  have j := h x (List.mem_cons_self ..)
  simp only [List.map_cons, sumL]
  rcases List.mem_cons.1 hy with rfl | hy
  ·omega
  ·have := sumL_lt l (fun y hy => h y (List.mem_cons_of_mem _ hy)) ⟨y, hy, hlt⟩
   omega
theorem pot_lt {m : Im} (hl : m.1.length ≤ 8) {N : Nat} {S h h' : List Sh} (hg : Gd m N h) (hg' : Gd m N h') (hb : Bel m h h') (hbS : Bel m h' S) (hne : h' ≠ h) : pot m.1 N S h' < pot m.1 N S h := by
 have key : ∀ k, pw m.1 (sh S k) (sh h' k) ≤ pw m.1 (sh S k) (sh h k) ∧ (sh h' k ≠ sh h k → pw m.1 (sh S k) (sh h' k) < pw m.1 (sh S k) (sh h k)) := fun k => by
  unfold pw
  cases h1 : (sh h' k).1
  ·have h0 : (sh h k).1 = false := by
    cases h0 : (sh h k).1
    ·rfl
    ·have := (hb k h0).1
     rw [h1] at this; cases this
   rw [h0]
   refine ⟨Nat.le_refl _, fun hne => absurd ?_ hne⟩
   have z : ∀ {x : List Sh}, Gd m N x → (sh x k).1 = false → sh x k = zSh := fun {x} hx h => by
    unfold sh at h ⊢
    by_cases hk : k < x.length
    ·rw [getD_some (List.getElem?_eq_getElem hk)] at h ⊢
     exact hx.bare _ (List.getElem_mem hk) h
    ·exact getD_out (by omega)
   rw [z hg' h1, z hg h0]
  ·obtain ⟨s1, s2⟩ := hbS k h1
   rw [s1]
   cases h0 : (sh h k).1 <;> simp only [if_true, Bool.false_eq_true, if_false]
   ·have := hs8_le hl (sh h' k).2.1
    rw [leS_len s2] at this
    exact ⟨by omega, fun _ => by omega⟩
   ·obtain ⟨-, b2⟩ := hb k h0
    obtain ⟨c1, c2⟩ := hs8_leS hl (hg.at' k).2 (hg'.at' k).2 b2
    refine ⟨c1, fun hne => c2 fun e => hne ?_⟩
    generalize sh h' k = x at h1 e ⊢
    generalize sh h k = y at h0 e ⊢
    obtain ⟨x1, x2, ⟨⟩⟩ := x
    obtain ⟨y1, y2, ⟨⟩⟩ := y
    simp only at h1 h0 e
    subst h1 h0 e
    rfl
 refine sumL_lt _ (fun k _ => (key k).1) ?_
 have : ∃ k, k < N ∧ sh h' k ≠ sh h k := Classical.byContradiction fun hno => hne (by
  refine List.ext_getElem (by rw [hg'.len, hg.len]) fun k k1 k2 => ?_
  have e : sh h' k = sh h k := Classical.byContradiction fun h => hno ⟨k, by rw [← hg'.len]; exact k1, h⟩
  unfold sh at e
  rwa [getD_some (List.getElem?_eq_getElem k1), getD_some (List.getElem?_eq_getElem k2)] at e)
 obtain ⟨k, hk, hne⟩ := this
 exact ⟨k, List.mem_range.2 hk, (key k).2 hne⟩
theorem sumL_add {α : Type} (f g : α → Nat) : ∀ l : List α, sumL (l.map fun x => f x + g x) = sumL (l.map f) + sumL (l.map g)
 | [] => rfl
 | x :: l => by have := sumL_add f g l; simp only [List.map_cons, sumL]; omega
theorem sumL_one {c : Nat} : ∀ {N a : Nat}, a < N → sumL ((List.range N).map fun k => if k = a then c else 0) = c := by
 have app : ∀ (a b : List Nat), sumL (a ++ b) = sumL a + sumL b := fun a b => by
  induction a with
  | nil => simp [sumL]
  | cons x a ih => simp only [List.cons_append, sumL, ih]; omega
 have z : ∀ {N a : Nat}, N ≤ a → sumL ((List.range N).map fun k => if k = a then c else 0) = 0 := fun {N} {a} h => by
  induction N with
  | zero => rfl
  | succ n ih =>
   rw [List.range_succ, List.map_append, app, ih (by omega)]
   simp only [List.map_cons, List.map_nil, sumL]
   rw [if_neg (by omega)]
 intro N a h
 induction N with
 | zero => cases h
 | succ n ih =>
  rw [List.range_succ, List.map_append, app]
  simp only [List.map_cons, List.map_nil, sumL]
  by_cases e : n = a
  ·rw [z (by omega), if_pos e]; omega
  ·rw [ih (by omega), if_neg e]; omega
theorem sumL_most {f : Nat → Nat} {c : Nat} : ∀ (N : Nat), (∀ k, f k ≤ c) → sumL ((List.range N).map f) ≤ c * N := fun N h => by
 have := sumL_le (f := f) (g := fun _ => c) (List.range N) fun k _ => h k
 have e : sumL ((List.range N).map fun _ => c) = c * N := by
  have : ∀ l : List Nat, sumL (l.map fun _ => c) = c * l.length := fun l => by
   induction l with
   | nil => rfl
   | cons x l ih => simp only [List.map_cons, sumL, ih, List.length_cons]; rw [Nat.mul_succ]; omega
  rw [this, List.length_range]
 omega
theorem pot_start {m : Im} {f : Int} (hc : codeN m f ≤ 64) {S h : List Sh} (hl : m.1.length ≤ 8) (hS : PF m f S) (hd : DC S) (hb : Bel m h S) : pot m.1 (codeN m f) S h < 4000 := by
 let v : Nat → Nat := fun k => if (sh S k).1 then 1 + 8 * (sh S k).2.1.length else 0
 have hv : ∀ k, pw m.1 (sh S k) (sh h k) ≤ v k := fun k => by
  show _ ≤ (if (sh S k).1 then 1 + 8 * (sh S k).2.1.length else 0)
  unfold pw
  split
  ·split
   ·rename_i h1
    have := hs8_le hl (sh h k).2.1
    rw [leS_len (hb k h1).2] at this
    omega
   ·omega
  ·omega
 have h1 : pot m.1 (codeN m f) S h ≤ sumL ((List.range (codeN m f)).map v) := sumL_le _ fun k _ => hv k
 have h65 : ∀ k, v k ≤ 65 := fun k => by
  show (if (sh S k).1 then 1 + 8 * (sh S k).2.1.length else 0) ≤ 65
  have := (hS.gd.at' k).1
  split <;> omega
 by_cases h3 : ∃ k, (sh S k).1 = true ∧ 2 < (sh S k).2.1.length
 ·obtain ⟨k, k1, k2⟩ := h3
  obtain ⟨k0, a1, a2⟩ := hd k k1 0 (by omega)
  obtain ⟨k1', b1, b2⟩ := hd k k1 1 (by omega)
  obtain ⟨k2', c1, c2⟩ := hd k k1 2 (by omega)
  have inN : ∀ {j}, (sh S j).1 = true → j < codeN m f := fun {j} h => by
   by_cases hj : j < codeN m f
   ·exact hj
   ·unfold sh at h
    rw [getD_out (by rw [hS.gd.len]; omega)] at h
    cases h
  have n01 : k0 ≠ k1' := fun e => by subst e; omega
  have n02 : k0 ≠ k2' := fun e => by subst e; omega
  have n12 : k1' ≠ k2' := fun e => by subst e; omega
  have key := sumL_most (f := fun k => v k + ((if k = k0 then 64 else 0) + ((if k = k1' then 56 else 0) + (if k = k2' then 48 else 0)))) (c := 65) (codeN m f) fun k => by
   have := h65 k
   by_cases e0 : k = k0
   ·have : v k = 1 := by show (if (sh S k).1 then 1 + 8 * (sh S k).2.1.length else 0) = 1; subst e0; rw [a1, a2]; rfl
    simp only [if_pos e0, if_neg (show k ≠ k1' by omega), if_neg (show k ≠ k2' by omega)]
    omega
   ·by_cases e1 : k = k1'
    ·have : v k = 9 := by show (if (sh S k).1 then 1 + 8 * (sh S k).2.1.length else 0) = 9; subst e1; rw [b1, b2]; rfl
     simp only [if_pos e1, if_neg e0, if_neg (show k ≠ k2' by omega)]
     omega
    ·by_cases e2 : k = k2'
     ·have : v k = 17 := by show (if (sh S k).1 then 1 + 8 * (sh S k).2.1.length else 0) = 17; subst e2; rw [c1, c2]; rfl
      simp only [if_pos e2, if_neg e0, if_neg e1]
      omega
     ·simp only [if_neg e2, if_neg e0, if_neg e1]
      omega
  rw [sumL_add v, sumL_add, sumL_add, sumL_one (inN a1), sumL_one (inN b1), sumL_one (inN c1)] at key
  omega
 ·have := sumL_most (f := v) (c := 17) (codeN m f) fun k => by
   show (if (sh S k).1 then 1 + 8 * (sh S k).2.1.length else 0) ≤ 17
   split
   ·rename_i hk
    have : ¬ 2 < (sh S k).2.1.length := fun h => h3 ⟨k, hk, h⟩
    omega
   ·omega
  omega
theorem round_right {m : Im} (hs : saneP m = true) {f : Int} {h : List Sh} {r : Bool × List Sh} (hg : Gd m (codeN m f) h) (hst : (sh h 0).1 = true ∧ (sh h 0).2.1 = []) (hr : flowR m f (codeN m f) false h = some r) (h0 : r.1 = false) : PF m f r.2 := by
 obtain ⟨F, G⟩ := flowR_facts hs _ _ _ _ hg hr
 obtain ⟨-, e⟩ := F.still h0
 rw [e]
 refine ⟨hg, hst, fun pc hp => ?_⟩
 by_cases hk : pc < codeN m f
 ·exact G h0 pc hk hp
 ·unfold sh at hp
  rw [getD_out (by rw [hg.len]; omega)] at hp
  cases hp
theorem rounds_right {m : Im} (hs : saneP m = true) {f : Int} : ∀ (n : Nat) (h : List Sh), Gd m (codeN m f) h → ((sh h 0).1 = true ∧ (sh h 0).2.1 = []) → (roundsM m f n h = ([], false, ())) ∨ ((roundsM m f n h).2.1 = true ∧ PF m f (roundsM m f n h).1)
 | 0, _, _, _ => .inl rfl
 | n + 1, h, hg, hst => by
  unfold roundsM
  cases hr : flowR m f (codeN m f) false h with
  | none => exact .inl rfl
  | some r =>
   simp only
   cases h1 : r.1 <;> simp only [cond_true, cond_false]
   ·exact .inr ⟨trivial, round_right hs hg hst hr h1⟩
   ·obtain ⟨F, -⟩ := flowR_facts hs _ _ _ _ hg hr
    exact rounds_right hs n r.2 F.gd (bel_start F.bel hst)
theorem rounds_end {m : Im} (hs : saneP m = true) {f : Int} {S : List Sh} (hl : m.1.length ≤ 8) (hS : PF m f S) : ∀ (n : Nat) (h : List Sh), Gd m (codeN m f) h → Bel m h S → pot m.1 (codeN m f) S h < n → (roundsM m f n h).2.1 = true ∧ Bel m (roundsM m f n h).1 S
 | 0, _, _, _, h => by omega
 | n + 1, h, hg, hb, hp => by
  obtain ⟨r, hr, hrb⟩ := flowR_below hs hS (codeN m f) false h hg hb
  obtain ⟨F, -⟩ := flowR_facts hs _ _ _ _ hg hr
  unfold roundsM
  rw [hr]
  simp only
  cases h1 : r.1 <;> simp only [cond_true, cond_false]
  ·exact ⟨trivial, hrb⟩
  ·refine rounds_end hs hl hS n r.2 F.gd hrb ?_
   have := pot_lt hl hg F.gd F.bel hrb ((F.moved h1).resolve_left Bool.false_ne_true)
   omega
theorem method_rounds {m : Im} (hs : saneP m = true) {f : Int} (hf : inM m f = true) : ∃ r, tmethod m f = some r ∧ GoodR (codeN m f) r.1 ∧
  (r.2.2.1 = 0 → roundsM m f 4000 (startH m f) = (r.1, true, ())) ∧ (r.2.2.1 ≠ 0 → roundsM m f 4000 (startH m f) = ([], false, ())) ∧ (r.2.2.1 = 0 → PF m f r.1) := by
 obtain ⟨r, hr, hg⟩ := tmethod_ends hs hf
 have hl := (fit_of (saneP_of hs).1).classes
 have hc := sane_code hs hf
 have W := start_wj hs hf
 have hw := hr
 unfold tmethod at hw
 rw [hs, hf] at hw
 simp only [Bool.and_self, cond_true] at hw
 have R := rounds_right hs (f := f) 4000 (startH m f) start_gd W.start
 refine ⟨r, hr, hg, fun h0 => ?_, fun h0 => ?_, fun h0 => (walk_right hs hf _ _ _ _ W hw h0).1⟩
 ·obtain ⟨P, D⟩ := walk_right hs hf _ _ _ _ W hw h0
  obtain ⟨e1, e2⟩ := rounds_end hs hl P 4000 (startH m f) start_gd (start_below hs hf P) (pot_start hc.2 hl P D (start_below hs hf P))
  rcases R with R | ⟨_, R⟩
  ·rw [R] at e1; cases e1
  ·obtain ⟨-, b⟩ := walk_below hs hf R _ _ _ _ W (start_below hs hf R) hw
   have e := bel_anti R.gd P.gd e2 b
   generalize roundsM m f 4000 (startH m f) = z at e1 e
   obtain ⟨z1, z2, ⟨⟩⟩ := z
   simp only at e1 e
   rw [e1, e]
 ·rcases R with R | ⟨_, R⟩
  ·exact R
  ·exact absurd (walk_below hs hf R _ _ _ _ W (start_below hs hf R) hw).1 h0
theorem check_all {m : Im} (hs : saneP m = true) : ∀ (l : List Int) (out : List (List Sh)), (∀ f ∈ l, inM m f = true) → ∃ r, checkM m l out = some r ∧
  (r.2.2.2.1 = 0 → allM m l out = (r.1, -1, ())) ∧ (r.2.2.2.1 ≠ 0 → allM m l out = ([], r.2.1, ()) ∧ inM m r.2.1 = true) ∧ (r.2.2.2.1 = 0 → r.1.length = out.length + l.length)
 | [], out, _ => ⟨_, rfl, fun _ => rfl, fun h => absurd rfl h, fun _ => rfl⟩
 | f :: l, out, hl => by
  have hf := hl f (List.mem_cons_self ..)
  obtain ⟨r, hr, -, h1, h2, -⟩ := method_rounds hs hf
  unfold checkM allM
  rw [hr]
  simp only [Option.bind_some]
  cases he : r.2.2.1 != 0 <;> simp only [cond_true, cond_false]
  ·rw [h1 (by simpa using he)]
   obtain ⟨r', i1, i2, i3, i4⟩ := check_all hs l (out ++ [r.1]) fun x hx => hl x (List.mem_cons_of_mem _ hx)
   exact ⟨r', i1, i2, i3, fun h0 => by rw [i4 h0]; simp; omega⟩
  ·have h0 : r.2.2.1 ≠ 0 := by simpa using he
   rw [h2 h0]
   exact ⟨_, rfl, fun h => absurd h h0, fun _ => ⟨rfl, hf⟩, fun h => absurd h h0⟩
theorem tcheck_all {m : Im} (hs : saneP m = true) : ∃ r, tcheck m = some r ∧ (r.2.2.2.1 = 0 → r8all m = some (r.1, -1, ()) ∧ r.1.length = m.2.2.2.1.length) ∧ (r.2.2.2.1 ≠ 0 → r8all m = some ([], r.2.1, ()) ∧ inM m r.2.1 = true) := by
 obtain ⟨r, h1, h2, h3, h4⟩ := check_all hs (ints m.2.2.2.1.length) [] fun f hf => inM_iff.2 (mem_ints.1 hf)
 refine ⟨r, ?_, fun h0 => ⟨?_, ?_⟩, fun h0 => ⟨?_, (h3 h0).2⟩⟩
 ·unfold tcheck; rw [hs]; exact h1
 ·unfold r8all; rw [hs, h2 h0]; rfl
 ·rw [h4 h0, ints_len]; simp
 ·unfold r8all; rw [hs, (h3 h0).1]; rfl
end Go.Pli

namespace Go.Pli
open Go Go.PM
theorem wrap_small {n : Int} (h1 : -1000000000 ≤ n) (h2 : n ≤ 1000000000) : IntKind.i64.wrap n = n := by rw [w64'] <;> omega
theorem maxF_le {l : List Int} {b : Int} (h : ∀ x ∈ l, x ≤ b) : ∀ a, a ≤ b → l.foldl max a ≤ b := by
 induction l with
 | nil => exact fun a h => h
 | cons x l ih => exact fun a ha => ih (fun y hy => h y (List.mem_cons_of_mem _ hy)) _ (by have := h x (List.mem_cons_self ..); omega)
theorem maxF_ge (l : List Int) : ∀ a, a ≤ l.foldl max a := by
 induction l with
 | nil => exact fun a => Int.le_refl _
 | cons x l ih => exact fun a => Int.le_trans (by omega) (ih (max a x))
end Go.Pli

namespace Go.Pli
open Go Go.PM
end Go.Pli
