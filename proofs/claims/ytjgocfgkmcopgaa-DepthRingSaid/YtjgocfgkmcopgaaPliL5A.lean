/- Images: what the functions come to: what fits. -/
import Derived.Test.YtjgocfgkmcopgaaPliSp
import Derived.Test.YtjgocfgkmcopgaaPliInst
namespace Go.Pli
open Go Go.PM
theorem clipI_eq (s : List Int) : clipIN s = some (idL s, ()) := by simp [clipIN, idL]
theorem dgt (a b : Int) : decide (a > b) = !decide (a ≤ b) := by
 by_cases h : a ≤ b
 ·have : ¬ a > b := by omega
  simp [h]
 ·have : a > b := by omega
  simp [this]
theorem r5in_eq (n a b : Int) : r5inN n a b = some (r5in n a b, ()) := by
 unfold r5inN r5in
 have h1 : decide (n ≥ a) = decide (a ≤ n) := rfl
 rw [h1]
 cases decide (a ≤ n) <;> rfl
theorem r5typ_eq (t : Tp) : r5typN t = some (r5typ t, ()) := by
 unfold r5typN r5typ ityp r5in iwithin
 cases decide (0 ≤ t.1) && decide (t.1 ≤ 5) <;> cases t.2.1 == 0 <;> cases t.1 == 3 <;> rfl
theorem r5list_eq (l : List Int) (c m : Int) (h : r5listLen l c m) : ∃ k, r5listN k l c m = some (r5list l c m, ()) := by
 refine ⟨l.length + 1, ?_⟩
 have key : loopF (r5listL1 l m) (l.length + 1) ((0 : Int), ()) = bif l.all (fun n => iwithin n m) then some (true, ()) else some (false, ()) := by
  refine loop_all (st := fun k => ((k : Int), ())) (p := fun n => iwithin n m) (fun k x rec hk hlt => ?_) (fun rec => ?_) _ (Nat.lt_succ_self _)
  ·unfold r5listL1
   simp only [dlt hlt, dge, Bool.and_self, cond_true, Int.toNat_natCast, getD_some hk, wsucc hlt h.1.1]
   unfold r5in iwithin
   cases decide (0 ≤ x) && decide (x ≤ m) <;> rfl
  ·unfold r5listL1
   simp only [dnlt, cond_false]
 unfold r5listN
 rw [key, dgt]
 unfold r5list inums
 cases decide ((l.length : Int) ≤ c) <;> simp
 cases l.all fun n => iwithin n m <;> rfl
theorem r5types_eq (l : List Tp) (c : Int) (h : r5typesLen l c) : ∃ k, r5typesN k l c = some (r5types l c, ()) := by
 refine ⟨l.length + 1, ?_⟩
 have key : loopF (r5typesL1 l) (l.length + 1) ((0 : Int), ()) = bif l.all ityp then some (true, ()) else some (false, ()) := by
  refine loop_all (st := fun k => ((k : Int), ())) (p := ityp) (fun k x rec hk hlt => ?_) (fun rec => ?_) _ (Nat.lt_succ_self _)
  ·unfold r5typesL1
   simp only [dlt hlt, dge, Bool.and_self, cond_true, Int.toNat_natCast, getD_some hk, wsucc hlt h.1.1]
   unfold r5typ
   cases ityp x <;> rfl
  ·unfold r5typesL1
   simp only [dnlt, cond_false]
 unfold r5typesN
 rw [key, dgt]
 unfold r5types itypes
 cases decide ((l.length : Int) ≤ c) <;> simp
 cases l.all ityp <;> rfl
theorem r5fits_eq (m : Im) (_ : r5fitsLen m) : ∃ k, r5fitsN k m = some (r5fits m, ()) := by
 refine ⟨100, ?_⟩
 unfold r5fitsN
 rw [dgt, dgt, dgt]
 by_cases h1 : (m.1.length : Int) ≤ 8
 ·by_cases h3 : (m.2.2.2.1.length : Int) ≤ 12
  ·have key2 : loopF (r5fitsL2 m 100) 100 ((0 : Int), ()) = bif m.2.2.2.1.all imethod then some (true, ()) else some (false, ()) := by
    refine loop_all (st := fun k => ((k : Int), ())) (p := imethod) (fun k x rec hk hlt => ?_) (fun rec => ?_) _ (by omega)
    ·unfold r5fitsL2
     simp only [dlt hlt, dge, Bool.and_self, cond_true, Int.toNat_natCast, getD_some hk]
     rw [dgt]
     by_cases hc : (x.2.2.2.1.length : Int) ≤ 64
     ·have inner : loopF (r5fitsL1 m ((k : Int), ()) rec) 100 ((0 : Int), ()) = bif x.2.2.2.1.all igood then rec (((k + 1 : Nat) : Int), ()) else some (false, ()) := by
       refine loop_all (st := fun k => ((k : Int), ())) (p := igood) (fun j i rec2 hj hlj => ?_) (fun rec2 => ?_) _ (by omega)
       ·unfold r5fitsL1
        simp only [Int.toNat_natCast, getD_some hk, dlt hlj, dge, Bool.and_self, cond_true, getD_some hj, wsucc hlj (show x.2.2.2.1.length ≤ lenMax by simp only [lenMax]; omega)]
        unfold rinstr
        cases igood i <;> rfl
       ·unfold r5fitsL1
        simp only [Int.toNat_natCast, getD_some hk, dnlt, cond_false, wsucc hlt (show m.2.2.2.1.length ≤ lenMax by simp only [lenMax]; omega)]
      rw [inner]
      unfold imethod r5types r5typ r5in r5list iwithin
      simp only [hc, decide_true, Bool.true_and, Bool.not_true, cond_false]
      cases itypes x.1 4 <;> cases itypes x.2.1 8 <;> cases ityp x.2.2.1 <;> cases x.2.2.2.1.all igood <;> cases decide (0 ≤ x.2.2.2.2.1) && decide (x.2.2.2.2.1 ≤ 8) <;>
       cases decide (0 ≤ x.2.2.2.2.2.1) && decide (x.2.2.2.2.2.1 ≤ 4096) <;> cases inums x.2.2.2.2.2.2.1 64 4096 <;> rfl
     ·unfold imethod r5types r5typ
      simp only [hc, decide_false, Bool.false_and, Bool.not_false, cond_true]
      cases itypes x.1 4 <;> cases itypes x.2.1 8 <;> cases ityp x.2.2.1 <;> rfl
    ·unfold r5fitsL2
     simp only [dnlt, cond_false]
   have key1 : loopF (r5fitsL3 m 100) 100 ((0 : Int), ()) = bif m.1.all iclass then (bif m.2.2.2.1.all imethod then some (true, ()) else some (false, ())) else some (false, ()) := by
    refine loop_all (st := fun k => ((k : Int), ())) (p := iclass) (fun k x rec hk hlt => ?_) (fun rec => ?_) _ (by omega)
    ·unfold r5fitsL3
     simp only [dlt hlt, dge, Bool.and_self, cond_true, Int.toNat_natCast, getD_some hk, wsucc hlt (show m.1.length ≤ lenMax by simp only [lenMax]; omega)]
     have h7 : decide (x.1 ≤ 7) = decide (x.1 < 8) := by by_cases h : x.1 < 8 <;> simp [h] <;> omega
     unfold iclass r5in r5types r5list
     rw [h7]
     cases decide (-1 ≤ x.1) <;> cases decide (x.1 < 8) <;> cases itypes x.2.1 8 <;> cases inums x.2.2.1 4 11 <;> rfl
    ·unfold r5fitsL3
     simp only [dnlt, cond_false]
     exact key2
   rw [key1]
   unfold r5fits ifits r5types r5list r5in iwithin
   simp only [h1, h3, decide_true, Bool.not_true, cond_false, Bool.true_and]
   cases itypes m.2.1 8 <;> cases decide ((m.2.2.1.length : Int) ≤ 16) <;> cases m.1.all iclass <;> cases m.2.2.2.1.all imethod <;> cases inums m.2.2.2.2.1 12 11 <;>
    cases decide (0 ≤ m.2.2.2.2.2.1) && decide (m.2.2.2.2.2.1 ≤ 4096) <;> cases decide (0 ≤ m.2.2.2.2.2.2.1) && decide (m.2.2.2.2.2.2.1 ≤ 4096) <;> rfl
  ·unfold r5fits ifits
   simp only [h1, h3, decide_true, decide_false, Bool.not_true, Bool.not_false, cond_true, cond_false, Bool.false_and, Bool.and_false]
   cases decide ((m.2.2.1.length : Int) ≤ 16) <;> rfl
 ·unfold r5fits ifits
  simp only [h1, decide_false, Bool.not_false, cond_true, Bool.false_and]
end Go.Pli

namespace Go.Pli
open Go Go.PM
theorem tp_beq (x y : Tp) : ((x.1 == y.1) && ((x.2.1 == y.2.1) && true)) = (x == y) := by
 obtain ⟨a, b, u⟩ := x; obtain ⟨c, d, v⟩ := y; rfl
theorem zip_all_eq {α : Type} [BEq α] : ∀ (a b : List α), a.length = b.length → (a.zip b).all (fun q => q.1 == q.2) = (a == b)
 | [], [], _ => rfl
 | [], _ :: _, h => by simp at h
 | _ :: _, [], h => by simp at h
 | x :: a, y :: b, h => by
  have ih := zip_all_eq a b (by simpa using h)
  simp only [List.zip_cons_cons, List.all_cons, ih]
  rfl
theorem loop_zip {α σ R : Type} [BEq α] {L : σ → (σ → Option R) → Option R} {a b : List α} {st : Nat → σ} {ex fin : Option R} (hl : a.length = b.length)
  (h1 : ∀ (k : Nat) (x y : α) (rec), a[k]? = some x → b[k]? = some y → k < a.length → k < b.length → L (st k) rec = bif x == y then rec (st (k + 1)) else ex)
  (h2 : ∀ rec, L (st a.length) rec = fin) : ∀ F : Nat, a.length < F → loopF L F (st 0) = bif a == b then fin else ex := by
 intro F hF
 have hz : (a.zip b).length = a.length := by rw [List.length_zip]; omega
 rw [← zip_all_eq a b hl]
 refine loop_all (xs := a.zip b) (p := fun q => q.1 == q.2) (fun k q rec hk hlt => ?_) (fun rec => by rw [hz]; exact h2 rec) F (by omega)
 have hka : k < a.length := by omega
 have hkb : k < b.length := by omega
 rw [List.getElem?_eq_getElem hlt] at hk
 injection hk with hk
 subst hk
 rw [List.getElem_zip]
 exact h1 k _ _ rec (List.getElem?_eq_getElem hka) (List.getElem?_eq_getElem hkb) hka hkb
theorem zip_len {α : Type} [BEq α] {a b : List α} (h : a.length ≠ b.length) : (a == b) = false := by
 induction a generalizing b with
 | nil => cases b with
  | nil => simp at h
  | cons => rfl
 | cons x a ih => cases b with
  | nil => rfl
  | cons y b =>
   have := ih (b := b) (by simpa using h)
   show (x == y && a == b) = false
   rw [this]; simp
theorem len_bne (a b : Nat) : ((a : Int) != (b : Int)) = !decide (a = b) := by
 by_cases h : a = b
 ·subst h; simp
 ·have : ¬ ((a : Int) = (b : Int)) := by omega
  simp [h, this]
theorem eqT_eq (a b : List Tp) (h : eqTLen a b) : ∃ k, eqTN k a b = some (eqL a b, ()) := by
 refine ⟨a.length + 1, ?_⟩
 unfold eqTN
 rw [len_bne]
 by_cases hl : a.length = b.length
 ·have key : loopF (eqTL1 a b) (a.length + 1) ((0 : Int), ()) = bif a == b then some (true, ()) else some (false, ()) := by
   refine loop_zip (st := fun k => ((k : Int), ())) hl (fun k x y rec hx hy hka hkb => ?_) (fun rec => ?_) _ (Nat.lt_succ_self _)
   ·unfold eqTL1
    simp only [dlt hka, dlt hkb, dge, Bool.and_self, cond_true, Int.toNat_natCast, getD_some hx, getD_some hy, wsucc hka h.1.1, tp_beq]
    cases x == y <;> rfl
   ·unfold eqTL1
    simp only [dnlt, cond_false]
  rw [key]
  unfold eqL
  simp only [hl, decide_true, Bool.not_true, cond_false]
  cases a == b <;> rfl
 ·unfold eqL
  rw [zip_len hl]
  simp [hl]
theorem bne_not {α : Type} [BEq α] (x y : α) : (x != y) = !(x == y) := rfl
theorem eqJ_eq (a b : List Int) (h : eqJLen a b) : ∃ k, eqJN k a b = some (eqL a b, ()) := by
 refine ⟨a.length + 1, ?_⟩
 unfold eqJN
 rw [len_bne]
 by_cases hl : a.length = b.length
 ·have key : loopF (eqJL1 a b) (a.length + 1) ((0 : Int), ()) = bif a == b then some (true, ()) else some (false, ()) := by
   refine loop_zip (st := fun k => ((k : Int), ())) hl (fun k x y rec hx hy hka hkb => ?_) (fun rec => ?_) _ (Nat.lt_succ_self _)
   ·unfold eqJL1
    simp only [dlt hka, dlt hkb, dge, Bool.and_self, cond_true, Int.toNat_natCast, getD_some hx, getD_some hy, wsucc hka h.1.1, bne_not]
    cases x == y <;> rfl
   ·unfold eqJL1
    simp only [dnlt, cond_false]
  rw [key]
  unfold eqL
  simp only [hl, decide_true, Bool.not_true, cond_false]
  cases a == b <;> rfl
 ·unfold eqL
  rw [zip_len hl]
  simp [hl]
theorem rtypes_eq (a b : List Tp) (h : rtypesLen a b) : ∃ k, rtypesN k a b = some (rtypes a b, ()) := eqT_eq a b h
theorem rints_eq (a b : List Int) (h : rintsLen a b) : ∃ k, rintsN k a b = some (rints a b, ()) := eqJ_eq a b h
theorem rgood_eq (t : Tp) (n : Int) : rgoodN t n = some (rgood t n, ()) := by
 unfold rgoodN rgood kgood
 have h : decide (t.2.1 ≥ 0) = decide (0 ≤ t.2.1) := rfl
 rw [h]
 by_cases h1 : t.1 = 1
 ·have h3 : (t.1 == 3) = false := by rw [h1]; rfl
  have h1' : (t.1 == 1) = true := by rw [h1]; rfl
  rw [h1', h3]
  cases t.2.1 == 0 <;> rfl
 ·have h1' : (t.1 == 1) = false := by simpa using h1
  rw [h1']
  by_cases h2 : t.1 = 2
  ·have h3 : (t.1 == 3) = false := by rw [h2]; rfl
   have h2' : (t.1 == 2) = true := by rw [h2]; rfl
   rw [h2', h3]
   cases t.2.1 == 0 <;> rfl
  ·have h2' : (t.1 == 2) = false := by simpa using h2
   rw [h2']
   cases t.1 == 3 <;> cases decide (0 ≤ t.2.1) <;> rfl
theorem risref_eq (t : Tp) : risrefN t = some (risref t, ()) := by
 unfold risrefN risref kisref
 cases t.1 == 2 <;> cases t.1 == 3 <;> rfl
theorem kup_eq (l : List Cl) (c : Int) : kupN l c = some (kup l c, ()) := by
 unfold kupN kup supC
 by_cases h1 : c < 0
 ·simp [h1]
 ·by_cases h2 : c ≥ (l.length : Int)
  ·simp [h1, h2]
  ·have h3 : 0 ≤ c := by omega
   have h4 : c < (l.length : Int) := by omega
   simp only [h1, h2, h3, h4, decide_true, decide_false, Bool.and_self, cond_true, cond_false, Bool.false_or]
   cases decide ((l.getD c.toNat zCl).1 ≥ c) <;> rfl
theorem kup_lt {l : List Cl} {c : Int} (h : 0 ≤ c) : kup l c < c := by
 unfold kup
 by_cases h1 : decide (c < 0) || (decide (c ≥ (l.length : Int)) || decide (supC l c ≥ c))
 ·simp [h1]; omega
 ·simp only [Bool.not_eq_true] at h1
  rw [h1]
  simp only [Bool.or_eq_false_iff, decide_eq_false_iff_not] at h1
  simp only [cond_false]
  omega
theorem chainF_neg {l : List Cl} {c : Int} (h : c < 0) : ∀ n, chainF l n c = []
 | 0 => rfl
 | n + 1 => by simp [chainF, h]
theorem chainF_more {l : List Cl} : ∀ (n m : Nat) (c : Int), c.toNat < n → c.toNat < m → chainF l n c = chainF l m c
 | 0, _, _, h, _ => by omega
 | _ + 1, 0, _, _, h => by omega
 | n + 1, m + 1, c, h1, h2 => by
  simp only [chainF]
  by_cases hc : c < 0
  ·simp [hc]
  ·have := kup_lt (l := l) (c := c) (by omega)
   simp only [hc, decide_false, cond_false]
   by_cases hk : kup l c < 0
   ·rw [chainF_neg hk, chainF_neg hk]
   ·rw [chainF_more n m (kup l c) (by omega) (by omega)]
theorem chain_neg {l : List Cl} {c : Int} (h : c < 0) : chain l c = [] := chainF_neg h _
theorem chain_step {l : List Cl} {c : Int} (h : 0 ≤ c) : chain l c = c :: chain l (kup l c) := by
 have h0 : ¬ c < 0 := by omega
 have := kup_lt (l := l) h
 unfold chain
 rw [chainF]
 simp only [h0, decide_false, cond_false]
 by_cases hk : kup l c < 0
 ·rw [chainF_neg hk, chainF_neg hk]
 ·rw [chainF_more c.toNat ((kup l c).toNat + 1) (kup l c) (by omega) (by omega)]
theorem below_loop (l : List Cl) (b : Int) : ∀ (n : Nat) (c : Int), c.toNat < n → loopF (kbelowL1 l b) (n + 1) (c, ()) = some ((chain l c).contains b, ())
 | 0, _, h => by omega
 | n + 1, c, h => by
  rw [loopF_step, kbelowL1]
  by_cases hc : c < 0
  ·have h0 : ¬ c ≥ 0 := by omega
   rw [chain_neg hc]
   simp only [h0, decide_false, cond_false]
   rfl
  ·have h0 : c ≥ 0 := by omega
   have hlt := kup_lt (l := l) (c := c) (by omega)
   rw [chain_step (by omega)]
   simp only [h0, decide_true, cond_true, List.contains_cons]
   by_cases hb : c = b
   ·subst hb; simp
   ·have e1 : (c == b) = false := by simpa using hb
    have e2 : (b == c) = false := by simpa using fun h => hb h.symm
    rw [e1, e2]
    simp only [cond_false, Bool.false_or]
    by_cases hk : kup l c < 0
    ·rw [chain_neg hk, loopF_step, kbelowL1]
     have : ¬ kup l c ≥ 0 := by omega
     simp only [this, decide_false, cond_false]
     rfl
    ·exact below_loop l b n (kup l c) (by omega)
theorem kbelow_eq (l : List Cl) (a b : Int) : ∃ k, kbelowN k l a b = some (kbelow l a b, ()) := by
 refine ⟨a.toNat + 1 + 1, ?_⟩
 unfold kbelowN kbelow
 rw [below_loop l b (a.toNat + 1) a (by omega)]
 by_cases h1 : b < 0
 ·have : ¬ 0 ≤ b := by omega
  simp [h1, this]
 ·have h1' : 0 ≤ b := by omega
  by_cases h2 : b ≥ (l.length : Int)
  ·have : ¬ b < (l.length : Int) := by omega
   simp [h1, h2, this]
  ·have h2' : b < (l.length : Int) := by omega
   by_cases h3 : a ≥ (l.length : Int)
   ·have : ¬ a < (l.length : Int) := by omega
    simp [h1, h2, h3, this]
   ·have h3' : a < (l.length : Int) := by omega
    simp only [h1, h2, h3, h1', h2', h3', decide_true, decide_false, cond_false, Bool.true_and]
theorem chain_len (l : List Cl) : ∀ (n : Nat) (c : Int), c.toNat < n → (chain l c).length ≤ n
 | 0, _, h => by omega
 | n + 1, c, h => by
  by_cases hc : c < 0
  ·rw [chain_neg hc]; simp
  ·rw [chain_step (by omega), List.length_cons]
   have hlt := kup_lt (l := l) (c := c) (by omega)
   by_cases hk : kup l c < 0
   ·rw [chain_neg hk]; simp
   ·have := chain_len l n (kup l c) (by omega)
    omega
theorem okL_lt {α : Type} {l : List α} (h : okL l = true) : l.length < 1000000 := by simpa [okL] using h
theorem above_loop (l : List Cl) (hl : l.length < 1000000) : ∀ (n : Nat) (c : Int) (out : List Int), c.toNat < n → c < (l.length : Int) → out.length + n < 3000000 →
  loopF (raboveL1 l) (n + 1) (c, out, ()) = some (out ++ chain l c, ())
 | 0, _, _, h, _, _ => by omega
 | n + 1, c, out, h, hcl, ho => by
  rw [loopF_step, raboveL1]
  by_cases hc : c < 0
  ·have h0 : ¬ c ≥ 0 := by omega
   rw [chain_neg hc]
   simp [h0]
  ·have h0 : c ≥ 0 := by omega
   have h0' : 0 ≤ c := by omega
   have hlt := kup_lt (l := l) (c := c) (by omega)
   have hroom : out.length + [c].length < rowMax := by simp [rowMax]; omega
   rw [chain_step (by omega)]
   have hk : kup l c = bif decide ((l.getD c.toNat zCl).1 ≥ c) then -1 else (l.getD c.toNat zCl).1 := by
    have e1 : ¬ c ≥ (l.length : Int) := by omega
    unfold kup supC
    simp only [hc, e1, decide_false, Bool.false_or]
   simp only [h0, hcl, hroom, decide_true, Bool.and_self, cond_true]
   have fin : loopF (raboveL1 l) (n + 1) (kup l c, out ++ [c], ()) = some (out ++ (c :: chain l (kup l c)), ()) := by
    by_cases hk : kup l c < 0
    ·rw [loopF_step]
     unfold raboveL1
     have : ¬ kup l c ≥ 0 := by omega
     rw [chain_neg hk]
     simp [this]
    ·rw [above_loop l hl n (kup l c) (out ++ [c]) (by omega) (by omega) (by simp; omega)]
     simp
   rw [hk] at fin ⊢
   cases hd : decide ((l.getD c.toNat zCl).1 ≥ c)
   ·rw [hd] at fin; simpa using fin
   ·rw [hd] at fin; simpa using fin
theorem rabove_ok (l : List Cl) (c : Int) (r) (h : rabove l c = some r) : ∃ k, raboveN k l c = some r := by
 unfold rabove at h
 cases hl : okL l <;> simp only [hl, cond_true, cond_false] at h
 ·cases h
 injection h with h
 subst h
 have hlt := okL_lt hl
 refine ⟨c.toNat + 1 + 1, ?_⟩
 unfold raboveN raboveB
 by_cases hc : c < (l.length : Int)
 ·rw [above_loop l hlt (c.toNat + 1) c [] (by omega) hc (by simp; omega)]
  simp [hc]
 ·rw [loopF_step, raboveL1]
  have h0 : c ≥ 0 := by omega
  simp [h0, hc]
theorem rsub_ok (l : List Cl) (a b : Tp) (r) (h : rsub l a b = some r) : rsubN l a b = some r := by
 unfold rsub at h
 cases hl : okL l <;> simp only [hl, cond_true, cond_false] at h
 ·cases h
 injection h with h
 subst h
 have hlt := okL_lt hl
 unfold rsubN rsubB rabove
 rw [tp_beq]
 have hlen : (raboveB l a.2.1).length < 9223372036854775807 := by
  unfold raboveB
  by_cases hc : a.2.1 < (l.length : Int)
  ·have := chain_len l (a.2.1.toNat + 1) a.2.1 (by omega)
   simp only [hc, decide_true, cond_true]
   omega
  ·simp [hc]
 have hrin : rin (raboveB l a.2.1) b.2.1 = some ((raboveB l a.2.1).contains b.2.1, ()) := by
  unfold rin
  rw [decide_eq_true hlen]; rfl
 simp only [hl, cond_true, Option.bind_some, hrin, risref]
 by_cases h1 : a.1 = 1
 ·have e3 : (a.1 == 3) = false := by rw [h1]; rfl
  have e1 : (a.1 == 1) = true := by rw [h1]; rfl
  rw [e1, e3]
  cases a.1 == 4 <;> cases a == b <;> rfl
 ·have e1 : (a.1 == 1) = false := by simpa using h1
  rw [e1]
  cases a.1 == 4 <;> cases a.1 == 3 <;> cases b.1 == 3 <;> cases a.1 == 2 <;> cases a == b <;> rfl
end Go.Pli

namespace Go.Pli
open Go Go.PM
theorem allN_true {α : Type} {p : Nat → α → Bool} : ∀ (l : List α) (k : Nat), allN p k l = true ↔ ∀ (j : Nat) x, l[j]? = some x → p (k + j) x = true
 | [], k => by simp [allN]
 | x :: l, k => by
  simp only [allN, Bool.and_eq_true]
  rw [allN_true l (k + 1)]
  constructor
  ·intro ⟨h1, h2⟩ j y hy
   cases j with
   | zero => simp at hy; subst hy; simpa using h1
   | succ j =>
    have := h2 j y (by simpa using hy)
    rwa [Nat.add_assoc, Nat.add_comm 1 j] at this
  ·intro h
   refine ⟨by simpa using h 0 x rfl, fun j y hy => ?_⟩
   have := h (j + 1) y (by simpa using hy)
   rwa [Nat.add_assoc, Nat.add_comm 1 j]
theorem loop_allN {α σ R : Type} {L : σ → (σ → Option R) → Option R} {xs : List α} {st : Nat → σ} {p : Nat → α → Bool} {ex fin : Option R}
  (h1 : ∀ (k : Nat) (x : α) (rec), xs[k]? = some x → k < xs.length → L (st k) rec = bif p k x then rec (st (k + 1)) else ex)
  (h2 : ∀ rec, L (st xs.length) rec = fin) : ∀ F : Nat, xs.length < F → loopF L F (st 0) = bif allN p 0 xs then fin else ex := by
 have key : ∀ (l pre : List α) (F : Nat), xs = pre ++ l → l.length < F → loopF L F (st pre.length) = bif allN p pre.length l then fin else ex := by
  intro l
  induction l with
  | nil =>
   intro pre F hx hF
   obtain ⟨F, rfl⟩ : ∃ n, F = n + 1 := ⟨F - 1, by simp at hF; omega⟩
   rw [List.append_nil] at hx
   subst hx
   rw [loopF_step, h2]
   rfl
  | cons x l ih =>
   intro pre F hx hF
   obtain ⟨F, rfl⟩ : ∃ n, F = n + 1 := ⟨F - 1, by simp at hF; omega⟩
   have hk : xs[pre.length]? = some x := by rw [hx]; simp
   have hl : pre.length < xs.length := by rw [hx]; simp
   rw [loopF_step, h1 pre.length x _ hk hl]
   have := ih (pre ++ [x]) F (by rw [hx]; simp) (by simp only [List.length_cons] at hF; omega)
   simp only [List.length_append, List.length_cons, List.length_nil, Nat.zero_add] at this
   rw [this]
   simp only [allN]
   cases p pre.length x <;> rfl
 intro F hF
 exact key xs [] F rfl hF
theorem range_all {q : Nat → Bool} {n : Nat} : (List.range n).all q = true ↔ ∀ k, k < n → q k = true := by
 simp [List.all_eq_true]
theorem loop_ok {R : Type} {L : Bool × Int × Unit → (Bool × Int × Unit → Option R) → Option R} {N : Nat} {q : Nat → Bool} {fin : Bool → Option R}
  (h1 : ∀ (k : Nat) (rec), k < N → (∀ j, j < k → q j = true) → L (true, (k : Int), ()) rec = rec (q k, ((k + 1 : Nat) : Int), ()) ∨ (q k = false ∧ L (true, (k : Int), ()) rec = fin false))
  (h0 : ∀ (k : Nat) rec, k ≤ N → L (false, (k : Int), ()) rec = fin false) (h2 : ∀ rec, L (true, (N : Int), ()) rec = fin true) :
  ∀ (F : Nat) (b : Bool), N + 1 < F → loopF L F (b, ((0 : Nat) : Int), ()) = fin (b && (List.range N).all q) := by
 have hf : ∀ (F k : Nat), 0 < F → k ≤ N → loopF L F (false, (k : Int), ()) = fin false := fun F k hF hk => by
  obtain ⟨F, rfl⟩ : ∃ n, F = n + 1 := ⟨F - 1, by omega⟩
  rw [loopF_step, h0 k _ hk]
 have key : ∀ (d k F : Nat), k + d = N → d + 1 < F → (∀ j, j < k → q j = true) → loopF L F (true, (k : Int), ()) = fin ((List.range N).all q) := by
  intro d
  induction d with
  | zero =>
   intro k F hk hF hh
   obtain ⟨F, rfl⟩ : ∃ n, F = n + 1 := ⟨F - 1, by omega⟩
   have : k = N := by omega
   subst this
   rw [loopF_step, h2, range_all.2 hh]
  | succ d ih =>
   intro k F hk hF hh
   obtain ⟨F, rfl⟩ : ∃ n, F = n + 1 := ⟨F - 1, by omega⟩
   rw [loopF_step]
   cases hq : q k with
   | true =>
    rcases h1 k (loopF L F) (by omega) hh with h | ⟨h, _⟩
    ·rw [h, hq]
     refine ih (k + 1) F (by omega) (by omega) fun j hj => ?_
     rcases Nat.lt_or_ge j k with h | h
     ·exact hh j h
     ·have : j = k := by omega
      subst this; exact hq
    ·rw [hq] at h; cases h
   | false =>
    have : (List.range N).all q = false := by
     cases ha : (List.range N).all q with
     | false => rfl
     | true => rw [range_all.1 ha k (by omega)] at hq; cases hq
    rw [this]
    rcases h1 k (loopF L F) (by omega) hh with h | ⟨_, h⟩
    ·rw [h, hq]
     exact hf F (k + 1) (by omega) (by omega)
    ·exact h
 intro F b hF
 cases b with
 | true => simpa using key N 0 F (by omega) hF fun j hj => by omega
 | false => simpa using hf F 0 (by omega) (by omega)
structure Fit (m : Im) : Prop where
 classes : m.1.length ≤ 8
 statics : itypes m.2.1 8 = true
 ints : m.2.2.1.length ≤ 16
 methods : m.2.2.2.1.length ≤ 12
 cls : ∀ c ∈ m.1, iclass c = true
 mts : ∀ x ∈ m.2.2.2.1, imethod x = true
 entries : inums m.2.2.2.2.1 12 11 = true
 stack : iwithin m.2.2.2.2.2.1 4096 = true
 heap : iwithin m.2.2.2.2.2.2.1 4096 = true
theorem fit_of {m : Im} (h : ifits m = true) : Fit m := by
 simp only [ifits, Bool.and_eq_true, decide_eq_true_eq, List.all_eq_true] at h
 obtain ⟨h1, h2, h3, h4, h5, h6, h7, h8, h9⟩ := h
 exact ⟨by omega, h2, by omega, by omega, h5, h6, h7, h8, h9⟩
theorem cls_of {c : Cl} (h : iclass c = true) : (-1 ≤ c.1 ∧ c.1 < 8) ∧ (c.2.1.length ≤ 8 ∧ ∀ t ∈ c.2.1, ityp t = true) ∧ (c.2.2.1.length ≤ 4 ∧ ∀ n ∈ c.2.2.1, 0 ≤ n ∧ n ≤ 11) := by
 simp only [iclass, itypes, inums, iwithin, Bool.and_eq_true, decide_eq_true_eq, List.all_eq_true] at h
 obtain ⟨h1, h2, ⟨h3, h4⟩, h5, h6⟩ := h
 exact ⟨⟨h1, h2⟩, ⟨by omega, h4⟩, ⟨by omega, h6⟩⟩
theorem mth_of {x : Mt} (h : imethod x = true) : (x.1.length ≤ 4 ∧ ∀ t ∈ x.1, ityp t = true) ∧ (x.2.1.length ≤ 8 ∧ ∀ t ∈ x.2.1, ityp t = true) ∧ ityp x.2.2.1 = true ∧ (x.2.2.2.1.length ≤ 64 ∧ ∀ i ∈ x.2.2.2.1, igood i = true) ∧
  (0 ≤ x.2.2.2.2.1 ∧ x.2.2.2.2.1 ≤ 8) ∧ (0 ≤ x.2.2.2.2.2.1 ∧ x.2.2.2.2.2.1 ≤ 4096) ∧ (x.2.2.2.2.2.2.1.length ≤ 64 ∧ ∀ n ∈ x.2.2.2.2.2.2.1, 0 ≤ n ∧ n ≤ 4096) := by
 simp only [imethod, itypes, inums, iwithin, Bool.and_eq_true, decide_eq_true_eq, List.all_eq_true] at h
 obtain ⟨⟨h1, h2⟩, ⟨h3, h4⟩, h5, h6, h7, h8, h9, h10, h11⟩ := h
 exact ⟨⟨by omega, h2⟩, ⟨by omega, h4⟩, h5, ⟨by omega, h7⟩, h8, h9, ⟨by omega, h11⟩⟩
theorem clOf_mem {m : Im} {c : Int} (h0 : 0 ≤ c) (h1 : c < (m.1.length : Int)) : clOf m c ∈ m.1 := by
 have h : c.toNat < m.1.length := by omega
 unfold clOf
 rw [getD_some (List.getElem?_eq_getElem h)]
 exact List.getElem_mem h
theorem mtOf_mem {m : Im} {f : Int} (h0 : 0 ≤ f) (h1 : f < (m.2.2.2.1.length : Int)) : mtOf m f ∈ m.2.2.2.1 := by
 have h : f.toNat < m.2.2.2.1.length := by omega
 unfold mtOf
 rw [getD_some (List.getElem?_eq_getElem h)]
 exact List.getElem_mem h
theorem preC_of {m : Im} {c : Int} (h : preC m c = true) : Fit m ∧ 0 ≤ c ∧ c < (m.1.length : Int) ∧ ∀ k : Nat, (k : Int) < c → classB m (k : Int) = true := by
 simp only [preC, Bool.and_eq_true, decide_eq_true_eq] at h
 obtain ⟨h1, h2, h3, h4⟩ := h
 exact ⟨fit_of h1, h2, h3, fun k hk => range_all.1 h4 k (by omega)⟩
theorem allC_of {m : Im} (h : allC m = true) {c : Int} (h0 : 0 ≤ c) (h1 : c < (m.1.length : Int)) : classB m c = true := by
 have := range_all.1 h c.toNat (by omega)
 rwa [show ((c.toNat : Nat) : Int) = c by omega] at this
theorem slots_of {m : Im} {c : Int} (h : classB m c = true) {k : Nat} {f : Int} (hk : (clOf m c).2.2.1[k]? = some f) : (0 ≤ f ∧ f < (m.2.2.2.1.length : Int)) ∧ 0 < (mtOf m f).1.length := by
 simp only [classB, Bool.and_eq_true, decide_eq_true_eq] at h
 obtain ⟨_, _, _, _, h5⟩ := h
 have := (allN_true _ 0).1 h5 k f hk
 simp only [slotB, sin, fitsB, Bool.and_eq_true, decide_eq_true_eq] at this
 exact ⟨this.1, this.2.1.1⟩
theorem r5good_eq (m : Im) (l : List Tp) (h : r5goodLen m l) : ∃ k, r5goodN k m l = some (r5good m l, ()) := by
 refine ⟨l.length + 1, ?_⟩
 unfold r5goodN r5good goods
 have key : loopF (r5goodL1 m l) (l.length + 1) ((0 : Int), ()) = bif (l.all fun t => kgood t (m.1.length : Int)) then some (true, ()) else some (false, ()) := by
  refine loop_all (st := fun k => ((k : Int), ())) (p := fun t => kgood t (m.1.length : Int)) (fun k x rec hk hlt => ?_) (fun rec => ?_) _ (by omega)
  ·rw [r5goodL1]
   simp only [dlt hlt, dge, Bool.and_self, cond_true, Int.toNat_natCast, getD_some hk, wsucc hlt h.2.1.1, rgood]
   cases kgood x (m.1.length : Int) <;> rfl
  ·rw [r5goodL1]
   simp only [dnlt, cond_false]
 rw [key]
 cases l.all fun t => kgood t (m.1.length : Int) <;> rfl
theorem drop_take_len {α : Type} (l : List α) (n : Nat) : (l.take l.length).drop n = l.drop n := by rw [List.take_length]
end Go.Pli

namespace Go.Pli
open Go Go.PM
theorem slotAt {m : Im} {c : Int} {k : Nat} {f : Int} (hf : Fit m) (h0 : 0 ≤ c) (h1 : c < (m.1.length : Int)) (hk : (clOf m c).2.2.1[k]? = some f) : 0 ≤ f ∧ f ≤ 11 :=
 (cls_of (hf.cls _ (clOf_mem h0 h1))).2.2.2 f (List.mem_of_getElem? hk)
theorem upSlot_ok {m : Im} {c : Int} (hh : ∀ k : Nat, (k : Int) < c → classB m (k : Int) = true) (hs : supC m.1 c < c) {k : Nat} (hk : k < (upSlots m c).length) :
  (0 ≤ (upSlots m c).getD k 0 ∧ (upSlots m c).getD k 0 < (m.2.2.2.1.length : Int)) ∧ 0 < (mtOf m ((upSlots m c).getD k 0)).1.length := by
 unfold upSlots at hk ⊢
 by_cases h0 : 0 ≤ supC m.1 c
 ·simp only [h0, decide_true, cond_true] at hk ⊢
  have hcl : classB m (supC m.1 c) = true := by
   have := hh (supC m.1 c).toNat (by omega)
   rwa [show (((supC m.1 c).toNat : Nat) : Int) = supC m.1 c by omega] at this
  have hg := List.getElem?_eq_getElem hk
  rw [getD_some hg]
  exact slots_of hcl hg
 ·simp [h0] at hk
end Go.Pli
