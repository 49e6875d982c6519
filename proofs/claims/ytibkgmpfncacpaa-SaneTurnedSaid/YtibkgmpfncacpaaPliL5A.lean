/- Images: what the functions come to: what fits. -/
import Derived.Test.YtibkgmpfncacpaaPliSp
import Derived.Test.YtibkgmpfncacpaaPliInst
namespace Go.Pli
open Go Go.PM
theorem iwithin_eq (n m : Int) : iwithinN n m = some (iwithin n m, ()) := by
 unfold iwithinN iwithin
 by_cases h : 0 ≤ n
 ·have : n ≥ 0 := h
  simp [h]
 ·have : ¬ n ≥ 0 := h
  simp [h]
theorem ityp_eq (t : Tp) : itypN t = some (ityp t, ()) := by
 unfold itypN ityp
 cases iwithin t.1 5 <;> cases t.2.1 == 0 <;> cases t.1 == 3 <;> rfl
theorem ityp1_eq (t : Tp) : ityp1N t = some (ityp1 t, ()) := rfl
theorem any_not {α : Type} (p : α → Bool) (l : List α) : (l.any fun x => !p x) = !l.all p := by
 induction l with
 | nil => rfl
 | cons x l ih => simp [ih]
theorem itypes_eq (l : List Tp) (m : Int) : itypesN l m = some (itypes l m, ()) := by
 unfold itypesN itypes containsTypes
 have : l.any ityp1 = !l.all ityp := any_not ityp l
 rw [this]
 cases decide ((l.length : Int) ≤ m) <;> simp
theorem inum1_eq (n m : Int) : inum1N n m = some (inum1 n m, ()) := rfl
theorem inums_eq (l : List Int) (c m : Int) : inumsN l c m = some (inums l c m, ()) := by
 unfold inumsN inums containsNums
 have : (l.any fun n => inum1 n m) = !l.all fun n => iwithin n m := any_not (fun n => iwithin n m) l
 simp only
 rw [this]
 cases decide ((l.length : Int) ≤ c) <;> simp
theorem iclass_eq (x : Cl) : iclassN x = some (iclass x, ()) := by
 unfold iclassN iclass
 have h1 : decide (x.1 ≥ (-1 : Int)) = decide (-1 ≤ x.1) := rfl
 rw [h1]
 cases decide (-1 ≤ x.1) <;> cases decide (x.1 < 8) <;> cases itypes x.2.1 8 <;> rfl
theorem ifits1_eq (x : Cl) : ifits1N x = some (ifits1 x, ()) := rfl
theorem ifits2_eq (x : Mt) : ifits2N x = some (ifits2 x, ()) := rfl
theorem dgt (a b : Int) : decide (a > b) = !decide (a ≤ b) := by
 by_cases h : a ≤ b
 ·have : ¬ a > b := by omega
  simp [h]
 ·have : a > b := by omega
  simp [this]
theorem ifits_eq (m : Im) : ifitsN m = some (ifits m, ()) := by
 unfold ifitsN ifits containsClass containsMethod
 have h1 : m.1.any ifits1 = !m.1.all iclass := any_not iclass _
 have h2 : m.2.2.2.1.any ifits2 = !m.2.2.2.1.all imethod := any_not imethod _
 rw [h1, h2, dgt, dgt, dgt]
 cases decide ((m.1.length : Int) ≤ 8) <;> cases itypes m.2.1 8 <;> cases decide ((m.2.2.1.length : Int) ≤ 16) <;> cases decide ((m.2.2.2.1.length : Int) ≤ 12) <;> cases m.1.all iclass <;>
  cases m.2.2.2.1.all imethod <;> cases inums m.2.2.2.2.1 12 11 <;> cases iwithin m.2.2.2.2.2.1 4096 <;> rfl
theorem imethod_eq (x : Mt) : ∃ k, imethodN k x = some (imethod x, ()) := by
 refine ⟨x.2.2.2.1.length + 1, ?_⟩
 unfold imethodN
 rw [dgt]
 by_cases hl : (x.2.2.2.1.length : Int) ≤ 64
 ·have hl2 : x.2.2.2.1.length ≤ lenMax := by simp only [lenMax]; omega
  have hfin : loopF (imethodL1 x) (x.2.2.2.1.length + 1) ((0 : Int), ()) = bif x.2.2.2.1.all igood then
    (bif iwithin x.2.2.2.2.1 8 then (bif iwithin x.2.2.2.2.2.1 4096 then some (inums x.2.2.2.2.2.2.1 64 4096, ()) else some (false, ())) else some (false, ())) else some (false, ()) := by
   refine loop_all (st := fun k => ((k : Int), ())) (p := igood) (fun k i rec hk hlt => ?_) (fun rec => ?_) _ (Nat.lt_succ_self _)
   ·unfold imethodL1
    simp only [dlt hlt, dge, Bool.and_self, cond_true, Int.toNat_natCast, getD_some hk, wsucc hlt hl2]
    cases igood i <;> rfl
   ·unfold imethodL1
    simp only [dnlt, cond_false]
  rw [hfin]
  unfold imethod
  simp only [hl, decide_true, Bool.not_true, cond_false]
  cases itypes x.1 4 <;> cases itypes x.2.1 8 <;> cases ityp x.2.2.1 <;> cases x.2.2.2.1.all igood <;> cases iwithin x.2.2.2.2.1 8 <;> cases iwithin x.2.2.2.2.2.1 4096 <;> rfl
 ·unfold imethod
  simp only [hl, decide_false, Bool.not_false, cond_true]
  cases itypes x.1 4 <;> cases itypes x.2.1 8 <;> cases ityp x.2.2.1 <;> rfl
theorem indexClass_eq (l : List Cl) (c : Unit) (h : indexClassLen l c) : ∃ k, indexClassN k l c = some (indexClass l c, ()) := by
 refine ⟨l.length + 1, loop_index (st := fun k => ((k : Int), ())) (fun k x rec hk hlt => ?_) (fun rec => ?_) _ (Nat.lt_succ_self _)⟩
 ·unfold indexClassL1
  simp only [dlt hlt, dge, Bool.and_self, cond_true, Int.toNat_natCast, getD_some hk, wsucc hlt h.1.1]
 ·unfold indexClassL1
  simp only [dnlt, cond_false]
theorem containsClass_eq (l : List Cl) (c : Unit) (_ : containsClassLen l c) : containsClassN l c = some (containsClass l c, ()) := by
 unfold containsClassN indexClass containsClass
 rw [indexF_any]
theorem indexMethod_eq (l : List Mt) (c : Unit) (h : indexMethodLen l c) : ∃ k, indexMethodN k l c = some (indexMethod l c, ()) := by
 refine ⟨l.length + 1, loop_index (st := fun k => ((k : Int), ())) (fun k x rec hk hlt => ?_) (fun rec => ?_) _ (Nat.lt_succ_self _)⟩
 ·unfold indexMethodL1
  simp only [dlt hlt, dge, Bool.and_self, cond_true, Int.toNat_natCast, getD_some hk, wsucc hlt h.1.1]
 ·unfold indexMethodL1
  simp only [dnlt, cond_false]
theorem containsMethod_eq (l : List Mt) (c : Unit) (_ : containsMethodLen l c) : containsMethodN l c = some (containsMethod l c, ()) := by
 unfold containsMethodN indexMethod containsMethod
 rw [indexF_any]
theorem indexTypes_eq (l : List Tp) (c : Unit) (h : indexTypesLen l c) : ∃ k, indexTypesN k l c = some (indexTypes l c, ()) := by
 refine ⟨l.length + 1, loop_index (st := fun k => ((k : Int), ())) (fun k x rec hk hlt => ?_) (fun rec => ?_) _ (Nat.lt_succ_self _)⟩
 ·unfold indexTypesL1
  simp only [dlt hlt, dge, Bool.and_self, cond_true, Int.toNat_natCast, getD_some hk, wsucc hlt h.1.1]
 ·unfold indexTypesL1
  simp only [dnlt, cond_false]
theorem containsTypes_eq (l : List Tp) (c : Unit) (_ : containsTypesLen l c) : containsTypesN l c = some (containsTypes l c, ()) := by
 unfold containsTypesN indexTypes containsTypes
 rw [indexF_any]
theorem indexEntry_eq (l : List Tp) (c : Unit × Unit) (h : indexEntryLen l c) : ∃ k, indexEntryN k l c = some (indexEntry l c, ()) := by
 refine ⟨l.length + 1, loop_index (st := fun k => ((k : Int), ())) (fun k x rec hk hlt => ?_) (fun rec => ?_) _ (Nat.lt_succ_self _)⟩
 ·unfold indexEntryL1
  simp only [dlt hlt, dge, Bool.and_self, cond_true, Int.toNat_natCast, getD_some hk, wsucc hlt h.1.1]
 ·unfold indexEntryL1
  simp only [dnlt, cond_false]
theorem containsEntry_eq (l : List Tp) (c : Unit × Unit) (_ : containsEntryLen l c) : containsEntryN l c = some (containsEntry l c, ()) := by
 unfold containsEntryN indexEntry containsEntry
 rw [indexF_any]
theorem indexNums_eq (l : List Int) (c : Int × Unit) (h : indexNumsLen l c) : ∃ k, indexNumsN k l c = some (indexNums l c, ()) := by
 refine ⟨l.length + 1, loop_index (st := fun k => ((k : Int), ())) (p := fun n => inum1 n c.1) (fun k x rec hk hlt => ?_) (fun rec => ?_) _ (Nat.lt_succ_self _)⟩
 ·unfold indexNumsL1
  simp only [dlt hlt, dge, Bool.and_self, cond_true, Int.toNat_natCast, getD_some hk, wsucc hlt h.1.1]
 ·unfold indexNumsL1
  simp only [dnlt, cond_false]
theorem containsNums_eq (l : List Int) (c : Int × Unit) (_ : containsNumsLen l c) : containsNumsN l c = some (containsNums l c, ()) := by
 unfold containsNumsN indexNums containsNums
 rw [indexF_any]
theorem r5in_eq (n a b : Int) : r5inN n a b = some (r5in n a b, ()) := by
 unfold r5inN r5in
 have h1 : decide (n ≥ a) = decide (a ≤ n) := rfl
 rw [h1]
 cases decide (a ≤ n) <;> rfl
theorem r5typ_eq (t : Tp) : r5typN t = some (r5typ t, ()) := by
 unfold r5typN r5typ ityp r5in iwithin
 cases decide (0 ≤ t.1) && decide (t.1 ≤ 5) <;> cases t.2.1 == 0 <;> cases t.1 == 3 <;> rfl
theorem r5list_eq (l : List Int) (c m : Int) (h : r5listLen l c m) : ∃ k, r5listN k l c m = some (r5list l c m, ()) := by
 refine ⟨l.length + 1, ?_⟩
 have key : loopF (r5listL1 l m) (l.length + 1) ((0 : Int), ()) = bif l.all (fun n => iwithin n m) then some (true, ()) else some (false, ()) := by
  refine loop_all (st := fun k => ((k : Int), ())) (p := fun n => iwithin n m) (fun k x rec hk hlt => ?_) (fun rec => ?_) _ (Nat.lt_succ_self _)
  ·unfold r5listL1
   simp only [dlt hlt, dge, Bool.and_self, cond_true, Int.toNat_natCast, getD_some hk, wsucc hlt h.1.1]
   unfold r5in iwithin
   cases decide (0 ≤ x) && decide (x ≤ m) <;> rfl
  ·unfold r5listL1
   simp only [dnlt, cond_false]
 unfold r5listN
 rw [key, dgt]
 unfold r5list inums
 cases decide ((l.length : Int) ≤ c) <;> simp
 cases l.all fun n => iwithin n m <;> rfl
theorem r5types_eq (l : List Tp) (c : Int) (h : r5typesLen l c) : ∃ k, r5typesN k l c = some (r5types l c, ()) := by
 refine ⟨l.length + 1, ?_⟩
 have key : loopF (r5typesL1 l) (l.length + 1) ((0 : Int), ()) = bif l.all ityp then some (true, ()) else some (false, ()) := by
  refine loop_all (st := fun k => ((k : Int), ())) (p := ityp) (fun k x rec hk hlt => ?_) (fun rec => ?_) _ (Nat.lt_succ_self _)
  ·unfold r5typesL1
   simp only [dlt hlt, dge, Bool.and_self, cond_true, Int.toNat_natCast, getD_some hk, wsucc hlt h.1.1]
   unfold r5typ
   cases ityp x <;> rfl
  ·unfold r5typesL1
   simp only [dnlt, cond_false]
 unfold r5typesN
 rw [key, dgt]
 unfold r5types itypes
 cases decide ((l.length : Int) ≤ c) <;> simp
 cases l.all ityp <;> rfl
theorem r5fits_eq (m : Im) (_ : r5fitsLen m) : ∃ k, r5fitsN k m = some (r5fits m, ()) := by
 refine ⟨100, ?_⟩
 unfold r5fitsN
 rw [dgt, dgt, dgt]
 by_cases h1 : (m.1.length : Int) ≤ 8
 ·by_cases h3 : (m.2.2.2.1.length : Int) ≤ 12
  ·have key2 : loopF (r5fitsL2 m 100) 100 ((0 : Int), ()) = bif m.2.2.2.1.all imethod then some (true, ()) else some (false, ()) := by
    refine loop_all (st := fun k => ((k : Int), ())) (p := imethod) (fun k x rec hk hlt => ?_) (fun rec => ?_) _ (by omega)
    ·unfold r5fitsL2
     simp only [dlt hlt, dge, Bool.and_self, cond_true, Int.toNat_natCast, getD_some hk]
     rw [dgt]
     by_cases hc : (x.2.2.2.1.length : Int) ≤ 64
     ·have inner : loopF (r5fitsL1 m ((k : Int), ()) rec) 100 ((0 : Int), ()) = bif x.2.2.2.1.all igood then rec (((k + 1 : Nat) : Int), ()) else some (false, ()) := by
       refine loop_all (st := fun k => ((k : Int), ())) (p := igood) (fun j i rec2 hj hlj => ?_) (fun rec2 => ?_) _ (by omega)
       ·unfold r5fitsL1
        simp only [Int.toNat_natCast, getD_some hk, dlt hlj, dge, Bool.and_self, cond_true, getD_some hj, wsucc hlj (show x.2.2.2.1.length ≤ lenMax by simp only [lenMax]; omega)]
        unfold rinstr
        cases igood i <;> rfl
       ·unfold r5fitsL1
        simp only [Int.toNat_natCast, getD_some hk, dnlt, cond_false, wsucc hlt (show m.2.2.2.1.length ≤ lenMax by simp only [lenMax]; omega)]
      rw [inner]
      unfold imethod r5types r5typ r5in r5list iwithin
      simp only [hc, decide_true, Bool.true_and, Bool.not_true, cond_false]
      cases itypes x.1 4 <;> cases itypes x.2.1 8 <;> cases ityp x.2.2.1 <;> cases x.2.2.2.1.all igood <;> cases decide (0 ≤ x.2.2.2.2.1) && decide (x.2.2.2.2.1 ≤ 8) <;>
       cases decide (0 ≤ x.2.2.2.2.2.1) && decide (x.2.2.2.2.2.1 ≤ 4096) <;> cases inums x.2.2.2.2.2.2.1 64 4096 <;> rfl
     ·unfold imethod r5types r5typ
      simp only [hc, decide_false, Bool.false_and, Bool.not_false, cond_true]
      cases itypes x.1 4 <;> cases itypes x.2.1 8 <;> cases ityp x.2.2.1 <;> rfl
    ·unfold r5fitsL2
     simp only [dnlt, cond_false]
   have key1 : loopF (r5fitsL3 m 100) 100 ((0 : Int), ()) = bif m.1.all iclass then (bif m.2.2.2.1.all imethod then some (true, ()) else some (false, ())) else some (false, ()) := by
    refine loop_all (st := fun k => ((k : Int), ())) (p := iclass) (fun k x rec hk hlt => ?_) (fun rec => ?_) _ (by omega)
    ·unfold r5fitsL3
     simp only [dlt hlt, dge, Bool.and_self, cond_true, Int.toNat_natCast, getD_some hk, wsucc hlt (show m.1.length ≤ lenMax by simp only [lenMax]; omega)]
     have h7 : decide (x.1 ≤ 7) = decide (x.1 < 8) := by by_cases h : x.1 < 8 <;> simp [h] <;> omega
     unfold iclass r5in r5types r5list
     rw [h7]
     cases decide (-1 ≤ x.1) <;> cases decide (x.1 < 8) <;> cases itypes x.2.1 8 <;> cases inums x.2.2.1 4 11 <;> rfl
    ·unfold r5fitsL3
     simp only [dnlt, cond_false]
     exact key2
   rw [key1]
   unfold r5fits ifits r5types r5list r5in iwithin
   simp only [h1, h3, decide_true, Bool.not_true, cond_false, Bool.true_and]
   cases itypes m.2.1 8 <;> cases decide ((m.2.2.1.length : Int) ≤ 16) <;> cases m.1.all iclass <;> cases m.2.2.2.1.all imethod <;> cases inums m.2.2.2.2.1 12 11 <;>
    cases decide (0 ≤ m.2.2.2.2.2.1) && decide (m.2.2.2.2.2.1 ≤ 4096) <;> cases decide (0 ≤ m.2.2.2.2.2.2.1) && decide (m.2.2.2.2.2.2.1 ≤ 4096) <;> rfl
  ·unfold r5fits ifits
   simp only [h1, h3, decide_true, decide_false, Bool.not_true, Bool.not_false, cond_true, cond_false, Bool.false_and, Bool.and_false]
   cases decide ((m.2.2.1.length : Int) ≤ 16) <;> rfl
 ·unfold r5fits ifits
  simp only [h1, decide_false, Bool.not_false, cond_true, Bool.false_and]
end Go.Pli

namespace Go.Pli
open Go Go.PM
theorem tp_beq (x y : Tp) : ((x.1 == y.1) && ((x.2.1 == y.2.1) && true)) = (x == y) := by
 obtain ⟨a, b, u⟩ := x; obtain ⟨c, d, v⟩ := y; rfl
theorem zip_all_eq {α : Type} [BEq α] : ∀ (a b : List α), a.length = b.length → (a.zip b).all (fun q => q.1 == q.2) = (a == b)
 | [], [], _ => rfl
 | [], _ :: _, h => by simp at h
 | _ :: _, [], h => by simp at h
 | x :: a, y :: b, h => by
  have ih := zip_all_eq a b (by simpa using h)
  simp only [List.zip_cons_cons, List.all_cons, ih]
  rfl
theorem loop_zip {α σ R : Type} [BEq α] {L : σ → (σ → Option R) → Option R} {a b : List α} {st : Nat → σ} {ex fin : Option R} (hl : a.length = b.length)
  (h1 : ∀ (k : Nat) (x y : α) (rec), a[k]? = some x → b[k]? = some y → k < a.length → k < b.length → L (st k) rec = bif x == y then rec (st (k + 1)) else ex)
  (h2 : ∀ rec, L (st a.length) rec = fin) : ∀ F : Nat, a.length < F → loopF L F (st 0) = bif a == b then fin else ex := by
 intro F hF
 have hz : (a.zip b).length = a.length := by rw [List.length_zip]; omega
 rw [← zip_all_eq a b hl]
 refine loop_all (xs := a.zip b) (p := fun q => q.1 == q.2) (fun k q rec hk hlt => ?_) (fun rec => by rw [hz]; exact h2 rec) F (by omega)
 have hka : k < a.length := by omega
 have hkb : k < b.length := by omega
 rw [List.getElem?_eq_getElem hlt] at hk
 injection hk with hk
 subst hk
 rw [List.getElem_zip]
 exact h1 k _ _ rec (List.getElem?_eq_getElem hka) (List.getElem?_eq_getElem hkb) hka hkb
theorem zip_len {α : Type} [BEq α] {a b : List α} (h : a.length ≠ b.length) : (a == b) = false := by
 induction a generalizing b with
 | nil => cases b with
  | nil => simp at h
  | cons => rfl
 | cons x a ih => cases b with
  | nil => rfl
  | cons y b =>
   have := ih (b := b) (by simpa using h)
   show (x == y && a == b) = false
   rw [this]; simp
theorem len_bne (a b : Nat) : ((a : Int) != (b : Int)) = !decide (a = b) := by
 by_cases h : a = b
 ·subst h; simp
 ·have : ¬ ((a : Int) = (b : Int)) := by omega
  simp [h, this]
theorem eqT_eq (a b : List Tp) (h : eqTLen a b) : ∃ k, eqTN k a b = some (eqL a b, ()) := by
 refine ⟨a.length + 1, ?_⟩
 unfold eqTN
 rw [len_bne]
 by_cases hl : a.length = b.length
 ·have key : loopF (eqTL1 a b) (a.length + 1) ((0 : Int), ()) = bif a == b then some (true, ()) else some (false, ()) := by
   refine loop_zip (st := fun k => ((k : Int), ())) hl (fun k x y rec hx hy hka hkb => ?_) (fun rec => ?_) _ (Nat.lt_succ_self _)
   ·unfold eqTL1
    simp only [dlt hka, dlt hkb, dge, Bool.and_self, cond_true, Int.toNat_natCast, getD_some hx, getD_some hy, wsucc hka h.1.1, tp_beq]
    cases x == y <;> rfl
   ·unfold eqTL1
    simp only [dnlt, cond_false]
  rw [key]
  unfold eqL
  simp only [hl, decide_true, Bool.not_true, cond_false]
  cases a == b <;> rfl
 ·unfold eqL
  rw [zip_len hl]
  simp [hl]
theorem rtypes_eq (a b : List Tp) (h : rtypesLen a b) : ∃ k, rtypesN k a b = some (rtypes a b, ()) := eqT_eq a b h
theorem kgood_eq (t : Tp) (n : Int) : kgoodN t n = some (kgood t n, ()) := by
 unfold kgoodN kgood
 have h : decide (t.2.1 ≥ 0) = decide (0 ≤ t.2.1) := rfl
 rw [h]
 cases t.1 == 1 <;> cases t.1 == 2 <;> cases t.1 == 3 <;> cases decide (0 ≤ t.2.1) <;> rfl
theorem rgood_eq (t : Tp) (n : Int) : rgoodN t n = some (rgood t n, ()) := by
 unfold rgoodN rgood kgood
 have h : decide (t.2.1 ≥ 0) = decide (0 ≤ t.2.1) := rfl
 rw [h]
 by_cases h1 : t.1 = 1
 ·have h3 : (t.1 == 3) = false := by rw [h1]; rfl
  have h1' : (t.1 == 1) = true := by rw [h1]; rfl
  rw [h1', h3]
  cases t.2.1 == 0 <;> rfl
 ·have h1' : (t.1 == 1) = false := by simpa using h1
  rw [h1']
  by_cases h2 : t.1 = 2
  ·have h3 : (t.1 == 3) = false := by rw [h2]; rfl
   have h2' : (t.1 == 2) = true := by rw [h2]; rfl
   rw [h2', h3]
   cases t.2.1 == 0 <;> rfl
  ·have h2' : (t.1 == 2) = false := by simpa using h2
   rw [h2']
   cases t.1 == 3 <;> cases decide (0 ≤ t.2.1) <;> rfl
theorem kisref_eq (t : Tp) : kisrefN t = some (kisref t, ()) := by
 unfold kisrefN kisref
 cases t.1 == 2 <;> cases t.1 == 3 <;> rfl
theorem risref_eq (t : Tp) : risrefN t = some (risref t, ()) := by
 unfold risrefN risref kisref
 cases t.1 == 2 <;> cases t.1 == 3 <;> rfl
theorem kup_eq (l : List Cl) (c : Int) : kupN l c = some (kup l c, ()) := by
 unfold kupN kup supC
 by_cases h1 : c < 0
 ·simp [h1]
 ·by_cases h2 : c ≥ (l.length : Int)
  ·simp [h1, h2]
  ·have h3 : 0 ≤ c := by omega
   have h4 : c < (l.length : Int) := by omega
   simp only [h1, h2, h3, h4, decide_true, decide_false, Bool.and_self, cond_true, cond_false, Bool.false_or]
   cases decide ((l.getD c.toNat zCl).1 ≥ c) <;> rfl
theorem kup_lt {l : List Cl} {c : Int} (h : 0 ≤ c) : kup l c < c := by
 unfold kup
 by_cases h1 : decide (c < 0) || (decide (c ≥ (l.length : Int)) || decide (supC l c ≥ c))
 ·simp [h1]; omega
 ·simp only [Bool.not_eq_true] at h1
  rw [h1]
  simp only [Bool.or_eq_false_iff, decide_eq_false_iff_not] at h1
  simp only [cond_false]
  omega
theorem chainF_neg {l : List Cl} {c : Int} (h : c < 0) : ∀ n, chainF l n c = []
 | 0 => rfl
 | n + 1 => by simp [chainF, h]
theorem chainF_more {l : List Cl} : ∀ (n m : Nat) (c : Int), c.toNat < n → c.toNat < m → chainF l n c = chainF l m c
 | 0, _, _, h, _ => by omega
 | _ + 1, 0, _, _, h => by omega
 | n + 1, m + 1, c, h1, h2 => by
  simp only [chainF]
  by_cases hc : c < 0
  ·simp [hc]
  ·have := kup_lt (l := l) (c := c) (by omega)
   simp only [hc, decide_false, cond_false]
   by_cases hk : kup l c < 0
   ·rw [chainF_neg hk, chainF_neg hk]
   ·rw [chainF_more n m (kup l c) (by omega) (by omega)]
theorem chain_neg {l : List Cl} {c : Int} (h : c < 0) : chain l c = [] := chainF_neg h _
theorem chain_step {l : List Cl} {c : Int} (h : 0 ≤ c) : chain l c = c :: chain l (kup l c) := by
 have h0 : ¬ c < 0 := by omega
 have := kup_lt (l := l) h
 unfold chain
 rw [chainF]
 simp only [h0, decide_false, cond_false]
 by_cases hk : kup l c < 0
 ·rw [chainF_neg hk, chainF_neg hk]
 ·rw [chainF_more c.toNat ((kup l c).toNat + 1) (kup l c) (by omega) (by omega)]
theorem below_loop (l : List Cl) (b : Int) : ∀ (n : Nat) (c : Int), c.toNat < n → loopF (kbelowL1 l b) (n + 1) (c, ()) = some ((chain l c).contains b, ())
 | 0, _, h => by omega
 | n + 1, c, h => by
  rw [loopF_step, kbelowL1]
  by_cases hc : c < 0
  ·have h0 : ¬ c ≥ 0 := by omega
   rw [chain_neg hc]
   simp only [h0, decide_false, cond_false]
   rfl
  ·have h0 : c ≥ 0 := by omega
   have hlt := kup_lt (l := l) (c := c) (by omega)
   rw [chain_step (by omega)]
   simp only [h0, decide_true, cond_true, List.contains_cons]
   by_cases hb : c = b
   ·subst hb; simp
   ·have e1 : (c == b) = false := by simpa using hb
    have e2 : (b == c) = false := by simpa using fun h => hb h.symm
    rw [e1, e2]
    simp only [cond_false, Bool.false_or]
    by_cases hk : kup l c < 0
    ·rw [chain_neg hk, loopF_step, kbelowL1]
     have : ¬ kup l c ≥ 0 := by omega
     simp only [this, decide_false, cond_false]
     rfl
    ·exact below_loop l b n (kup l c) (by omega)
theorem kbelow_eq (l : List Cl) (a b : Int) : ∃ k, kbelowN k l a b = some (kbelow l a b, ()) := by
 refine ⟨a.toNat + 1 + 1, ?_⟩
 unfold kbelowN kbelow
 rw [below_loop l b (a.toNat + 1) a (by omega)]
 by_cases h1 : b < 0
 ·have : ¬ 0 ≤ b := by omega
  simp [h1, this]
 ·have h1' : 0 ≤ b := by omega
  by_cases h2 : b ≥ (l.length : Int)
  ·have : ¬ b < (l.length : Int) := by omega
   simp [h1, h2, this]
  ·have h2' : b < (l.length : Int) := by omega
   by_cases h3 : a ≥ (l.length : Int)
   ·have : ¬ a < (l.length : Int) := by omega
    simp [h1, h2, h3, this]
   ·have h3' : a < (l.length : Int) := by omega
    simp only [h1, h2, h3, h1', h2', h3', decide_true, decide_false, cond_false, Bool.true_and]
theorem ksub_eq (l : List Cl) (a b : Tp) : ksubN l a b = some (ksub l a b, ()) := by
 unfold ksubN ksub
 rw [tp_beq]
 cases a.1 == 4 <;> cases a.1 == 3 <;> cases b.1 == 3 <;> cases a == b <;> cases a.1 == 1 <;> rfl
theorem chain_len (l : List Cl) : ∀ (n : Nat) (c : Int), c.toNat < n → (chain l c).length ≤ n
 | 0, _, h => by omega
 | n + 1, c, h => by
  by_cases hc : c < 0
  ·rw [chain_neg hc]; simp
  ·rw [chain_step (by omega), List.length_cons]
   have hlt := kup_lt (l := l) (c := c) (by omega)
   by_cases hk : kup l c < 0
   ·rw [chain_neg hk]; simp
   ·have := chain_len l n (kup l c) (by omega)
    omega
theorem okL_lt {α : Type} {l : List α} (h : okL l = true) : l.length < 1000000 := by simpa [okL] using h
theorem above_loop (l : List Cl) (hl : l.length < 1000000) : ∀ (n : Nat) (c : Int) (out : List Int), c.toNat < n → c < (l.length : Int) → out.length + n < 3000000 →
  loopF (raboveL1 l) (n + 1) (c, out, ()) = some (out ++ chain l c, ())
 | 0, _, _, h, _, _ => by omega
 | n + 1, c, out, h, hcl, ho => by
  rw [loopF_step, raboveL1]
  by_cases hc : c < 0
  ·have h0 : ¬ c ≥ 0 := by omega
   rw [chain_neg hc]
   simp [h0]
  ·have h0 : c ≥ 0 := by omega
   have h0' : 0 ≤ c := by omega
   have hlt := kup_lt (l := l) (c := c) (by omega)
   have hroom : out.length + [c].length < rowMax := by simp [rowMax]; omega
   rw [chain_step (by omega)]
   have hk : kup l c = bif decide ((l.getD c.toNat zCl).1 ≥ c) then -1 else (l.getD c.toNat zCl).1 := by
    have e1 : ¬ c ≥ (l.length : Int) := by omega
    unfold kup supC
    simp only [hc, e1, decide_false, Bool.false_or]
   simp only [h0, hcl, hroom, decide_true, Bool.and_self, cond_true]
   have fin : loopF (raboveL1 l) (n + 1) (kup l c, out ++ [c], ()) = some (out ++ (c :: chain l (kup l c)), ()) := by
    by_cases hk : kup l c < 0
    ·rw [loopF_step]
     unfold raboveL1
     have : ¬ kup l c ≥ 0 := by omega
     rw [chain_neg hk]
     simp [this]
    ·rw [above_loop l hl n (kup l c) (out ++ [c]) (by omega) (by omega) (by simp; omega)]
     simp
   rw [hk] at fin ⊢
   cases hd : decide ((l.getD c.toNat zCl).1 ≥ c)
   ·rw [hd] at fin; simpa using fin
   ·rw [hd] at fin; simpa using fin
theorem rabove_ok (l : List Cl) (c : Int) (r) (h : rabove l c = some r) : ∃ k, raboveN k l c = some r := by
 unfold rabove at h
 cases hl : okL l <;> simp only [hl, cond_true, cond_false] at h
 ·cases h
 injection h with h
 subst h
 have hlt := okL_lt hl
 refine ⟨c.toNat + 1 + 1, ?_⟩
 unfold raboveN raboveB
 by_cases hc : c < (l.length : Int)
 ·rw [above_loop l hlt (c.toNat + 1) c [] (by omega) hc (by simp; omega)]
  simp [hc]
 ·rw [loopF_step, raboveL1]
  have h0 : c ≥ 0 := by omega
  simp [h0, hc]
theorem rsub_ok (l : List Cl) (a b : Tp) (r) (h : rsub l a b = some r) : rsubN l a b = some r := by
 unfold rsub at h
 cases hl : okL l <;> simp only [hl, cond_true, cond_false] at h
 ·cases h
 injection h with h
 subst h
 have hlt := okL_lt hl
 unfold rsubN rsubB rabove
 rw [tp_beq]
 have hlen : (raboveB l a.2.1).length < 9223372036854775807 := by
  unfold raboveB
  by_cases hc : a.2.1 < (l.length : Int)
  ·have := chain_len l (a.2.1.toNat + 1) a.2.1 (by omega)
   simp only [hc, decide_true, cond_true]
   omega
  ·simp [hc]
 have hrin : rin (raboveB l a.2.1) b.2.1 = some ((raboveB l a.2.1).contains b.2.1, ()) := by
  unfold rin
  rw [decide_eq_true hlen]; rfl
 simp only [hl, cond_true, Option.bind_some, hrin, risref]
 by_cases h1 : a.1 = 1
 ·have e3 : (a.1 == 3) = false := by rw [h1]; rfl
  have e1 : (a.1 == 1) = true := by rw [h1]; rfl
  rw [e1, e3]
  cases a.1 == 4 <;> cases a == b <;> rfl
 ·have e1 : (a.1 == 1) = false := by simpa using h1
  rw [e1]
  cases a.1 == 4 <;> cases a.1 == 3 <;> cases b.1 == 3 <;> cases a.1 == 2 <;> cases a == b <;> rfl
end Go.Pli

namespace Go.Pli
open Go Go.PM
theorem allN_true {α : Type} {p : Nat → α → Bool} : ∀ (l : List α) (k : Nat), allN p k l = true ↔ ∀ (j : Nat) x, l[j]? = some x → p (k + j) x = true
 | [], k => by simp [allN]
 | x :: l, k => by
  simp only [allN, Bool.and_eq_true]
  rw [allN_true l (k + 1)]
  constructor
  ·intro ⟨h1, h2⟩ j y hy
   cases j with
   | zero => simp at hy; subst hy; simpa using h1
   | succ j =>
    have := h2 j y (by simpa using hy)
    rwa [Nat.add_assoc, Nat.add_comm 1 j] at this
  ·intro h
   refine ⟨by simpa using h 0 x rfl, fun j y hy => ?_⟩
   have := h (j + 1) y (by simpa using hy)
   rwa [Nat.add_assoc, Nat.add_comm 1 j]
theorem loop_allN {α σ R : Type} {L : σ → (σ → Option R) → Option R} {xs : List α} {st : Nat → σ} {p : Nat → α → Bool} {ex fin : Option R}
  (h1 : ∀ (k : Nat) (x : α) (rec), xs[k]? = some x → k < xs.length → L (st k) rec = bif p k x then rec (st (k + 1)) else ex)
  (h2 : ∀ rec, L (st xs.length) rec = fin) : ∀ F : Nat, xs.length < F → loopF L F (st 0) = bif allN p 0 xs then fin else ex := by
 have key : ∀ (l pre : List α) (F : Nat), xs = pre ++ l → l.length < F → loopF L F (st pre.length) = bif allN p pre.length l then fin else ex := by
  intro l
  induction l with
  | nil =>
   intro pre F hx hF
   obtain ⟨F, rfl⟩ : ∃ n, F = n + 1 := ⟨F - 1, by simp at hF; omega⟩
   rw [List.append_nil] at hx
   subst hx
   rw [loopF_step, h2]
   rfl
  | cons x l ih =>
   intro pre F hx hF
   obtain ⟨F, rfl⟩ : ∃ n, F = n + 1 := ⟨F - 1, by simp at hF; omega⟩
   have hk : xs[pre.length]? = some x := by rw [hx]; simp
   have hl : pre.length < xs.length := by rw [hx]; simp
   rw [loopF_step, h1 pre.length x _ hk hl]
   have := ih (pre ++ [x]) F (by rw [hx]; simp) (by simp only [List.length_cons] at hF; omega)
   simp only [List.length_append, List.length_cons, List.length_nil, Nat.zero_add] at this
   rw [this]
   simp only [allN]
   cases p pre.length x <;> rfl
 intro F hF
 exact key xs [] F rfl hF
theorem range_all {q : Nat → Bool} {n : Nat} : (List.range n).all q = true ↔ ∀ k, k < n → q k = true := by
 simp [List.all_eq_true]
theorem loop_hist {σ R : Type} {L : σ → (σ → Option R) → Option R} {N : Nat} {st : Nat → σ} {q : Nat → Bool} {ex fin : Option R}
  (h1 : ∀ (k : Nat) (rec), k < N → (∀ j, j < k → q j = true) → L (st k) rec = bif q k then rec (st (k + 1)) else ex)
  (h2 : ∀ rec, L (st N) rec = fin) : ∀ F : Nat, N < F → loopF L F (st 0) = bif (List.range N).all q then fin else ex := by
 have key : ∀ (d k F : Nat), k + d = N → d < F → (∀ j, j < k → q j = true) → loopF L F (st k) = bif (List.range N).all q then fin else ex := by
  intro d
  induction d with
  | zero =>
   intro k F hk hF hh
   obtain ⟨F, rfl⟩ : ∃ n, F = n + 1 := ⟨F - 1, by omega⟩
   have : k = N := by omega
   subst this
   rw [loopF_step, h2, range_all.2 hh]
   rfl
  | succ d ih =>
   intro k F hk hF hh
   obtain ⟨F, rfl⟩ : ∃ n, F = n + 1 := ⟨F - 1, by omega⟩
   rw [loopF_step, h1 k _ (by omega) hh]
   cases hq : q k with
   | true =>
    simp only [cond_true]
    refine ih (k + 1) F (by omega) (by omega) fun j hj => ?_
    rcases Nat.lt_or_ge j k with h | h
    ·exact hh j h
    ·have : j = k := by omega
     subst this; exact hq
   | false =>
    have : (List.range N).all q = false := by
     cases ha : (List.range N).all q with
     | false => rfl
     | true => rw [range_all.1 ha k (by omega)] at hq; cases hq
    rw [this]
    rfl
 intro F hF
 exact key N 0 F (by omega) hF fun j hj => by omega
theorem loop_ok {R : Type} {L : Bool × Int × Unit → (Bool × Int × Unit → Option R) → Option R} {N : Nat} {q : Nat → Bool} {fin : Bool → Option R}
  (h1 : ∀ (k : Nat) (rec), k < N → (∀ j, j < k → q j = true) → L (true, (k : Int), ()) rec = rec (q k, ((k + 1 : Nat) : Int), ()) ∨ (q k = false ∧ L (true, (k : Int), ()) rec = fin false))
  (h0 : ∀ (k : Nat) rec, k ≤ N → L (false, (k : Int), ()) rec = fin false) (h2 : ∀ rec, L (true, (N : Int), ()) rec = fin true) :
  ∀ (F : Nat) (b : Bool), N + 1 < F → loopF L F (b, ((0 : Nat) : Int), ()) = fin (b && (List.range N).all q) := by
 have hf : ∀ (F k : Nat), 0 < F → k ≤ N → loopF L F (false, (k : Int), ()) = fin false := fun F k hF hk => by
  obtain ⟨F, rfl⟩ : ∃ n, F = n + 1 := ⟨F - 1, by omega⟩
  rw [loopF_step, h0 k _ hk]
 have key : ∀ (d k F : Nat), k + d = N → d + 1 < F → (∀ j, j < k → q j = true) → loopF L F (true, (k : Int), ()) = fin ((List.range N).all q) := by
  intro d
  induction d with
  | zero =>
   intro k F hk hF hh
   obtain ⟨F, rfl⟩ : ∃ n, F = n + 1 := ⟨F - 1, by omega⟩
   have : k = N := by omega
   subst this
   rw [loopF_step, h2, range_all.2 hh]
  | succ d ih =>
   intro k F hk hF hh
   obtain ⟨F, rfl⟩ : ∃ n, F = n + 1 := ⟨F - 1, by omega⟩
   rw [loopF_step]
   cases hq : q k with
   | true =>
    rcases h1 k (loopF L F) (by omega) hh with h | ⟨h, _⟩
    ·rw [h, hq]
     refine ih (k + 1) F (by omega) (by omega) fun j hj => ?_
     rcases Nat.lt_or_ge j k with h | h
     ·exact hh j h
     ·have : j = k := by omega
      subst this; exact hq
    ·rw [hq] at h; cases h
   | false =>
    have : (List.range N).all q = false := by
     cases ha : (List.range N).all q with
     | false => rfl
     | true => rw [range_all.1 ha k (by omega)] at hq; cases hq
    rw [this]
    rcases h1 k (loopF L F) (by omega) hh with h | ⟨_, h⟩
    ·rw [h, hq]
     exact hf F (k + 1) (by omega) (by omega)
    ·exact h
 intro F b hF
 cases b with
 | true => simpa using key N 0 F (by omega) hF fun j hj => by omega
 | false => simpa using hf F 0 (by omega) (by omega)
structure Fit (m : Im) : Prop where
 classes : m.1.length ≤ 8
 statics : itypes m.2.1 8 = true
 ints : m.2.2.1.length ≤ 16
 methods : m.2.2.2.1.length ≤ 12
 cls : ∀ c ∈ m.1, iclass c = true
 mts : ∀ x ∈ m.2.2.2.1, imethod x = true
 entries : inums m.2.2.2.2.1 12 11 = true
 stack : iwithin m.2.2.2.2.2.1 4096 = true
 heap : iwithin m.2.2.2.2.2.2.1 4096 = true
theorem fit_of {m : Im} (h : ifits m = true) : Fit m := by
 simp only [ifits, Bool.and_eq_true, decide_eq_true_eq, List.all_eq_true] at h
 obtain ⟨h1, h2, h3, h4, h5, h6, h7, h8, h9⟩ := h
 exact ⟨by omega, h2, by omega, by omega, h5, h6, h7, h8, h9⟩
theorem cls_of {c : Cl} (h : iclass c = true) : (-1 ≤ c.1 ∧ c.1 < 8) ∧ (c.2.1.length ≤ 8 ∧ ∀ t ∈ c.2.1, ityp t = true) ∧ (c.2.2.1.length ≤ 4 ∧ ∀ n ∈ c.2.2.1, 0 ≤ n ∧ n ≤ 11) := by
 simp only [iclass, itypes, inums, iwithin, Bool.and_eq_true, decide_eq_true_eq, List.all_eq_true] at h
 obtain ⟨h1, h2, ⟨h3, h4⟩, h5, h6⟩ := h
 exact ⟨⟨h1, h2⟩, ⟨by omega, h4⟩, ⟨by omega, h6⟩⟩
theorem mth_of {x : Mt} (h : imethod x = true) : (x.1.length ≤ 4 ∧ ∀ t ∈ x.1, ityp t = true) ∧ (x.2.1.length ≤ 8 ∧ ∀ t ∈ x.2.1, ityp t = true) ∧ ityp x.2.2.1 = true ∧ (x.2.2.2.1.length ≤ 64 ∧ ∀ i ∈ x.2.2.2.1, igood i = true) ∧
  (0 ≤ x.2.2.2.2.1 ∧ x.2.2.2.2.1 ≤ 8) ∧ (0 ≤ x.2.2.2.2.2.1 ∧ x.2.2.2.2.2.1 ≤ 4096) ∧ (x.2.2.2.2.2.2.1.length ≤ 64 ∧ ∀ n ∈ x.2.2.2.2.2.2.1, 0 ≤ n ∧ n ≤ 4096) := by
 simp only [imethod, itypes, inums, iwithin, Bool.and_eq_true, decide_eq_true_eq, List.all_eq_true] at h
 obtain ⟨⟨h1, h2⟩, ⟨h3, h4⟩, h5, h6, h7, h8, h9, h10, h11⟩ := h
 exact ⟨⟨by omega, h2⟩, ⟨by omega, h4⟩, h5, ⟨by omega, h7⟩, h8, h9, ⟨by omega, h11⟩⟩
theorem clOf_mem {m : Im} {c : Int} (h0 : 0 ≤ c) (h1 : c < (m.1.length : Int)) : clOf m c ∈ m.1 := by
 have h : c.toNat < m.1.length := by omega
 unfold clOf
 rw [getD_some (List.getElem?_eq_getElem h)]
 exact List.getElem_mem h
theorem mtOf_mem {m : Im} {f : Int} (h0 : 0 ≤ f) (h1 : f < (m.2.2.2.1.length : Int)) : mtOf m f ∈ m.2.2.2.1 := by
 have h : f.toNat < m.2.2.2.1.length := by omega
 unfold mtOf
 rw [getD_some (List.getElem?_eq_getElem h)]
 exact List.getElem_mem h
theorem preC_of {m : Im} {c : Int} (h : preC m c = true) : Fit m ∧ 0 ≤ c ∧ c < (m.1.length : Int) ∧ ∀ k : Nat, (k : Int) < c → classB m (k : Int) = true := by
 simp only [preC, Bool.and_eq_true, decide_eq_true_eq] at h
 obtain ⟨h1, h2, h3, h4⟩ := h
 exact ⟨fit_of h1, h2, h3, fun k hk => range_all.1 h4 k (by omega)⟩
theorem allC_of {m : Im} (h : allC m = true) {c : Int} (h0 : 0 ≤ c) (h1 : c < (m.1.length : Int)) : classB m c = true := by
 have := range_all.1 h c.toNat (by omega)
 rwa [show ((c.toNat : Nat) : Int) = c by omega] at this
theorem preC_allC {m : Im} (hf : ifits m = true) (h : allC m = true) {c : Int} (h0 : 0 ≤ c) (h1 : c < (m.1.length : Int)) : preC m c = true := by
 simp only [preC, Bool.and_eq_true, decide_eq_true_eq]
 exact ⟨hf, h0, h1, range_all.2 fun k hk => allC_of h (by omega) (by omega)⟩
theorem sup_lt {m : Im} {c : Int} (h : classB m c = true) : supC m.1 c < c := by
 simp only [classB, Bool.and_eq_true, decide_eq_true_eq] at h
 exact h.1
theorem slots_of {m : Im} {c : Int} (h : classB m c = true) {k : Nat} {f : Int} (hk : (clOf m c).2.2.1[k]? = some f) : (0 ≤ f ∧ f < (m.2.2.2.1.length : Int)) ∧ 0 < (mtOf m f).1.length := by
 simp only [classB, Bool.and_eq_true, decide_eq_true_eq] at h
 obtain ⟨_, _, _, _, h5⟩ := h
 have := (allN_true _ 0).1 h5 k f hk
 simp only [slotB, sin, fitsB, Bool.and_eq_true, decide_eq_true_eq] at this
 exact ⟨this.1, this.2.1.1⟩
theorem kup_sup {m : Im} {c : Int} (h0 : 0 ≤ c) (h1 : c < (m.1.length : Int)) (hs : supC m.1 c < c) : kup m.1 c = supC m.1 c := by
 unfold kup
 have a : ¬ c < 0 := by omega
 have b : ¬ c ≥ (m.1.length : Int) := by omega
 have d : ¬ supC m.1 c ≥ c := by omega
 simp [a, b, d]
theorem fieldsC_eq {m : Im} {c : Int} (h0 : 0 ≤ c) (h1 : c < (m.1.length : Int)) (hs : supC m.1 c < c) : fieldsC m c = (clOf m c).2.1.length + upFields m c := by
 unfold fieldsC upFields
 rw [chain_step h0, kup_sup h0 h1 hs]
 rfl
theorem sin_eq (n c : Int) : sinN n c = some (sin n c, ()) := by
 unfold sinN sin
 have : decide (n ≥ 0) = decide (0 ≤ n) := rfl
 rw [this]
 cases decide (0 ≤ n) <;> rfl
theorem maxLen_le (l : List (List Tp)) : ∃ M, ∀ x ∈ l, x.length ≤ M := by
 induction l with
 | nil => exact ⟨0, by simp⟩
 | cons x l ih =>
  obtain ⟨M, hM⟩ := ih
  exact ⟨x.length + M, fun y hy => by
   rcases List.mem_cons.1 hy with rfl | hy
   ·omega
   ·have := hM y hy; omega⟩
theorem sall_eq (m : Im) (l : List (List Tp)) (h : sallLen m l) : ∃ k, sallN k m l = some (sall m l, ()) := by
 obtain ⟨M, hM⟩ := maxLen_le l
 have hl : l.length ≤ lenMax ∧ ∀ x ∈ l, x.length ≤ lenMax := ⟨h.2.1.1, fun x hx => (h.2.1.2 x hx).1⟩
 refine ⟨l.length + M + 1, ?_⟩
 unfold sallN sall
 have key : loopF (sallL2 m l (l.length + M + 1)) (l.length + M + 1) ((0 : Int), ()) = bif l.all (goods m) then some (true, ()) else some (false, ()) := by
  refine loop_all (st := fun k => ((k : Int), ())) (p := goods m) (fun k x rec hk hlt => ?_) (fun rec => ?_) _ (by omega)
  ·rw [sallL2]
   simp only [dlt hlt, dge, Bool.and_self, cond_true]
   have hx : x ∈ l := List.mem_of_getElem? hk
   refine loop_all (st := fun k => ((k : Int), ())) (p := fun t => kgood t (m.1.length : Int)) (fun j t rec2 hj hlj => ?_) (fun rec2 => ?_) _ (by have := hM x hx; omega)
   ·rw [sallL1]
    simp only [Int.toNat_natCast, getD_some hk, dlt hlj, dge, Bool.and_self, cond_true, getD_some hj, wsucc hlj (hl.2 x hx)]
    cases kgood t (m.1.length : Int) <;> rfl
   ·rw [sallL1]
    simp only [Int.toNat_natCast, getD_some hk, dnlt, cond_false, wsucc hlt hl.1]
  ·rw [sallL2]
   simp only [dnlt, cond_false]
 rw [key]
 cases l.all (goods m) <;> rfl
theorem r5good_eq (m : Im) (l : List Tp) (h : r5goodLen m l) : ∃ k, r5goodN k m l = some (r5good m l, ()) := by
 refine ⟨l.length + 1, ?_⟩
 unfold r5goodN r5good goods
 have key : loopF (r5goodL1 m l) (l.length + 1) ((0 : Int), ()) = bif (l.all fun t => kgood t (m.1.length : Int)) then some (true, ()) else some (false, ()) := by
  refine loop_all (st := fun k => ((k : Int), ())) (p := fun t => kgood t (m.1.length : Int)) (fun k x rec hk hlt => ?_) (fun rec => ?_) _ (by omega)
  ·rw [r5goodL1]
   simp only [dlt hlt, dge, Bool.and_self, cond_true, Int.toNat_natCast, getD_some hk, wsucc hlt h.2.1.1, rgood]
   cases kgood x (m.1.length : Int) <;> rfl
  ·rw [r5goodL1]
   simp only [dnlt, cond_false]
 rw [key]
 cases l.all fun t => kgood t (m.1.length : Int) <;> rfl
theorem sabove_loop (m : Im) (hf : Fit m) (c : Int) (hc : c ≤ (m.1.length : Int)) (hh : ∀ k : Nat, (k : Int) < c → classB m (k : Int) = true) (sl : List Int) : ∀ (n : Nat) (s : Int) (acc : Nat), s.toNat < n → s < c → acc + 8 * n ≤ 1000 →
  loopF (saboveL1 m (sl, ())) (n + 1) ((acc : Int), s, ()) = some (((acc + sumL ((chain m.1 s).map fun s => (clOf m s).2.1.length) : Nat) : Int), sl, ())
 | 0, _, _, h, _, _ => by omega
 | n + 1, s, acc, h, hs, hb => by
  rw [loopF_step, saboveL1]
  by_cases h0 : s < 0
  ·have : ¬ s ≥ 0 := by omega
   rw [chain_neg h0]
   simp [this, sumL]
  ·have h1 : s ≥ 0 := by omega
   have h1' : 0 ≤ s := h1
   have h2 : s < (m.1.length : Int) := by omega
   have hcl : classB m s = true := by
    have := hh s.toNat (by omega)
    rwa [show ((s.toNat : Nat) : Int) = s by omega] at this
   have hsup := sup_lt hcl
   rw [chain_step h1', kup_sup h1' h2 hsup]
   have hcls := (cls_of (hf.cls _ (clOf_mem h1' h2))).2.1.1
   simp only [h1, h2, decide_true, Bool.and_self, cond_true]
   have hd : m.1.getD s.toNat zCl = clOf m s := rfl
   rw [hd, w64' (by omega) (by omega)]
   have e : ((acc : Int) + ((clOf m s).2.1.length : Int)) = ((acc + (clOf m s).2.1.length : Nat) : Int) := by omega
   rw [e]
   have hsd : (clOf m s).1 = supC m.1 s := rfl
   rw [hsd]
   by_cases hk : supC m.1 s < 0
   ·rw [loopF_step, saboveL1, chain_neg hk]
    have : ¬ supC m.1 s ≥ 0 := by omega
    simp [this, sumL]
   ·rw [sabove_loop m hf c hc hh sl n (supC m.1 s) _ (by omega) (by omega) (by omega)]
    simp only [List.map_cons, sumL]
    rw [Nat.add_assoc]
theorem sabove_ok (m : Im) (c : Int) (r) (h : sabove m c = some r) : ∃ k, saboveN k m c = some r := by
 unfold sabove at h
 cases hp : preC m c && decide (supC m.1 c < c) <;> simp only [hp, cond_true, cond_false] at h
 ·cases h
 injection h with h
 subst h
 simp only [Bool.and_eq_true, decide_eq_true_eq] at hp
 obtain ⟨hf, h0, h1, hh⟩ := preC_of hp.1
 have hs := hp.2
 have hcl8 := hf.classes
 refine ⟨(supC m.1 c).toNat + 1 + 1, ?_⟩
 have hd : (m.1.getD c.toNat zCl).1 = supC m.1 c := rfl
 have hloop := sabove_loop m hf c (by omega) hh (upSlots m c) ((supC m.1 c).toNat + 1) (supC m.1 c) 0 (by omega) hs (by omega)
 unfold saboveN
 rw [hd]
 simp only [h0, h1, decide_true, Bool.and_self, cond_true]
 have hup : (bif decide (supC m.1 c ≥ 0) then bif decide (0 ≤ supC m.1 c) && decide (supC m.1 c < (m.1.length : Int)) then (some (.inl ((m.1.getD (supC m.1 c).toNat zCl).2.2.1, ())) : Option ((List Int × Unit) ⊕ (Int × List Int × Unit))) else none else some (.inl (([] : List Int), ()))) = some (.inl (upSlots m c, ())) := by
  unfold upSlots
  by_cases hk : 0 ≤ supC m.1 c
  ·have a : supC m.1 c ≥ 0 := hk
   have b : supC m.1 c < (m.1.length : Int) := by omega
   simp only [a, b, decide_true, Bool.and_self, cond_true]
   rfl
  ·have a : ¬ supC m.1 c ≥ 0 := hk
   simp only [a, decide_false, cond_false]
 have hcast : ∀ x y : Nat, (x < y) = ((x : Int) < (y : Int)) := fun x y => by simp
 rw [hup]
 simp only [Option.bind_some]
 unfold upFields
 simpa using hloop
theorem sfits_ok (m : Im) (c f : Int) (r) (h : sfits m c f = some r) : sfitsN m c f = some r := by
 unfold sfits at h
 cases hp : sin f (m.2.2.2.1.length : Int) <;> simp only [hp, cond_true, cond_false] at h
 ·cases h
 injection h with h
 subst h
 simp only [sin, Bool.and_eq_true, decide_eq_true_eq] at hp
 unfold sfitsN fitsB
 have hd : m.2.2.2.1.getD f.toNat zMt = mtOf m f := rfl
 rw [hd]
 simp only [hp.1, hp.2, decide_true, Bool.and_self, cond_true]
 by_cases hl : 0 < (mtOf m f).1.length
 ·have a : ((mtOf m f).1.length : Int) > 0 := by omega
  have b : (0 : Int) < ((mtOf m f).1.length : Int) := by omega
  simp [hl]
 ·have a : ¬ ((mtOf m f).1.length : Int) > 0 := by omega
  simp [hl]
theorem drop_take_len {α : Type} (l : List α) (n : Nat) : (l.take l.length).drop n = l.drop n := by rw [List.take_length]
theorem salike_eq (a b : Mt) : salikeN a b = some (salike a b, ()) := by
 unfold salikeN salike alike eqL
 rw [tp_beq, drop_take_len, drop_take_len]
 by_cases ha : 0 < a.1.length
 ·have a1 : (a.1.length : Int) > 0 := by omega
  have a2 : (1 : Int) ≤ (a.1.length : Int) := by omega
  by_cases hb : 0 < b.1.length
  ·have b1 : (b.1.length : Int) > 0 := by omega
   have b2 : (1 : Int) ≤ (b.1.length : Int) := by omega
   simp only [ha, hb, a1, a2, b1, b2, decide_true, Bool.true_and, cond_true, Int.le_refl]
   cases a.1.drop 1 == b.1.drop 1 <;> rfl
  ·have b1 : ¬ (b.1.length : Int) > 0 := by omega
   simp [ha, hb]
 ·have a1 : ¬ (a.1.length : Int) > 0 := by omega
  simp [ha]
end Go.Pli

namespace Go.Pli
open Go Go.PM
theorem slotAt {m : Im} {c : Int} {k : Nat} {f : Int} (hf : Fit m) (h0 : 0 ≤ c) (h1 : c < (m.1.length : Int)) (hk : (clOf m c).2.2.1[k]? = some f) : 0 ≤ f ∧ f ≤ 11 :=
 (cls_of (hf.cls _ (clOf_mem h0 h1))).2.2.2 f (List.mem_of_getElem? hk)
theorem upSlot_ok {m : Im} {c : Int} (hh : ∀ k : Nat, (k : Int) < c → classB m (k : Int) = true) (hs : supC m.1 c < c) {k : Nat} (hk : k < (upSlots m c).length) :
  (0 ≤ (upSlots m c).getD k 0 ∧ (upSlots m c).getD k 0 < (m.2.2.2.1.length : Int)) ∧ 0 < (mtOf m ((upSlots m c).getD k 0)).1.length := by
 unfold upSlots at hk ⊢
 by_cases h0 : 0 ≤ supC m.1 c
 ·simp only [h0, decide_true, cond_true] at hk ⊢
  have hcl : classB m (supC m.1 c) = true := by
   have := hh (supC m.1 c).toNat (by omega)
   rwa [show (((supC m.1 c).toNat : Nat) : Int) = supC m.1 c by omega] at this
  have hg := List.getElem?_eq_getElem hk
  rw [getD_some hg]
  exact slots_of hcl hg
 ·simp [h0] at hk
theorem sclass_ok (m : Im) (c : Int) (r) (h : sclass m c = some r) : ∃ k, sclassN k m c = some r := by
 unfold sclass at h
 cases hp : preC m c <;> simp only [hp, cond_true, cond_false] at h
 ·cases h
 injection h with h
 subst h
 obtain ⟨hf, h0, h1, hh⟩ := preC_of hp
 refine ⟨100, ?_⟩
 obtain ⟨⟨c1, c2⟩, ⟨c3, c4⟩, ⟨c5, c6⟩⟩ := cls_of (hf.cls _ (clOf_mem h0 h1))
 unfold sclassN classB
 have hd : m.1.getD c.toNat zCl = clOf m c := rfl
 have hd2 : (clOf m c).1 = supC m.1 c := rfl
 rw [hd, hd2]
 simp only [h0, h1, decide_true, Bool.and_self, cond_true]
 by_cases hs : supC m.1 c < c
 ·have hns : ¬ supC m.1 c ≥ c := by omega
  simp only [hs, hns, decide_true, decide_false, cond_false, Bool.true_and]
  have hall : sall m [(clOf m c).2.1] = goods m (clOf m c).2.1 := by simp [sall]
  rw [hall]
  cases hg : goods m (clOf m c).2.1
  ·rfl
  ·have hab : sabove m c = some ((upFields m c : Int), upSlots m c, ()) := by
    unfold sabove
    simp [hp, hs]
   rw [hab, fieldsC_eq h0 h1 hs]
   simp only [Bool.not_true, cond_false, Option.bind_some, Bool.true_and]
   have hup8 : upFields m c ≤ 100 := by
    have key : ∀ (n : Nat) (s : Int), s.toNat < n → s < (m.1.length : Int) → (∀ k : Nat, (k : Int) ≤ s → classB m (k : Int) = true) → sumL ((chain m.1 s).map fun s => (clOf m s).2.1.length) ≤ 8 * n := by
     intro n
     induction n with
     | zero => intro s h; omega
     | succ n ih =>
      intro s hn hsl hk
      by_cases hneg : s < 0
      ·rw [chain_neg hneg]; simp [sumL]
      ·have hcs := hk s.toNat (by omega)
       rw [show ((s.toNat : Nat) : Int) = s by omega] at hcs
       have hsup := sup_lt hcs
       rw [chain_step (by omega), kup_sup (by omega) hsl hsup]
       simp only [List.map_cons, sumL]
       have hb := (cls_of (hf.cls _ (clOf_mem (m := m) (c := s) (by omega) hsl))).2.1.1
       by_cases hneg2 : supC m.1 s < 0
       ·rw [chain_neg hneg2]; simp [sumL]; omega
       ·have := ih (supC m.1 s) (by omega) (by omega) (fun k hk2 => hk k (by omega))
        omega
    have hcl := hf.classes
    have := key ((supC m.1 c).toNat + 1) (supC m.1 c) (by omega) (by omega) (fun k hk => hh k (by omega))
    unfold upFields
    omega
   rw [w64' (by omega) (by omega)]
   by_cases h8 : (clOf m c).2.1.length + upFields m c ≤ 8
   ·have h8' : ¬ ((upFields m c : Int) + ((clOf m c).2.1.length : Int)) > 8 := by omega
    simp only [h8, h8', decide_true, decide_false, cond_false, Bool.true_and]
    by_cases hu : (upSlots m c).length ≤ (clOf m c).2.2.1.length
    ·have hu' : ¬ ((clOf m c).2.2.1.length : Int) < ((upSlots m c).length : Int) := by omega
     simp only [hu, hu', decide_true, decide_false, cond_false, Bool.true_and]
     have key : loopF (sclassL1 m c ((upFields m c : Int), upSlots m c, ())) 100 ((0 : Int), ()) = bif allN (slotB m c) 0 (clOf m c).2.2.1 then some (true, ()) else some (false, ()) := by
      refine loop_allN (st := fun k => ((k : Int), ())) (p := slotB m c) (fun k f rec hk hlt => ?_) (fun rec => ?_) _ (by omega)
      ·rw [sclassL1]
       have hfr := slotAt hf h0 h1 hk
       simp only [hd, dlt hlt, dge, Bool.and_self, cond_true, Int.toNat_natCast, getD_some hk, wsucc hlt (show (clOf m c).2.2.1.length ≤ lenMax by simp only [lenMax]; omega)]
       unfold slotB
       cases hsin : sin f (m.2.2.2.1.length : Int)
       ·rfl
       ·have hsf : sfits m c f = some (fitsB m c f, ()) := by unfold sfits; rw [hsin]; rfl
        rw [hsf]
        simp only [Bool.not_true, cond_false, Option.bind_some, Bool.true_and]
        cases hfb : fitsB m c f
        ·rfl
        ·have hsr : 0 ≤ f ∧ f < (m.2.2.2.1.length : Int) := by simpa [sin] using hsin
         simp only [Bool.not_true, cond_false, Bool.true_and]
         by_cases hku : k < (upSlots m c).length
         ·obtain ⟨⟨u1, u2⟩, u3⟩ := upSlot_ok hh hs hku
          simp only [dlt hku, hku, cond_true, hsr.1, hsr.2, u1, u2, decide_true, Bool.and_self, Bool.not_true, Bool.false_or]
          have e1 : m.2.2.2.1.getD f.toNat zMt = mtOf m f := rfl
          have e2 : m.2.2.2.1.getD ((upSlots m c).getD k 0).toNat zMt = mtOf m ((upSlots m c).getD k 0) := rfl
          rw [e1, e2]
          unfold salike
          cases alike (mtOf m f) (mtOf m ((upSlots m c).getD k 0)) <;> rfl
         ·have : ¬ (k : Int) < ((upSlots m c).length : Int) := by omega
          simp [this, hku]
      ·rw [sclassL1]
       simp only [hd, dnlt, cond_false]
     rw [key]
     cases allN (slotB m c) 0 (clOf m c).2.2.1 <;> rfl
    ·have hu' : ((clOf m c).2.2.1.length : Int) < ((upSlots m c).length : Int) := by omega
     simp [hu, hu']
   ·have h8' : ((upFields m c : Int) + ((clOf m c).2.1.length : Int)) > 8 := by omega
    simp [h8, h8']
 ·have hns : supC m.1 c ≥ c := by omega
  simp [hs, hns]
theorem upFields_small {m : Im} {c : Int} (_ : Fit m) (_ : 0 ≤ c) (_ : c < (m.1.length : Int)) (hcB : classB m c = true) : fieldsC m c ≤ 8 := by
 simp only [classB, Bool.and_eq_true, decide_eq_true_eq] at hcB
 exact hcB.2.2.1
theorem sfields_ok (c : Int) (m : Im) (r) (h : sfields c m = some r) : sfieldsN c m = some r := by
 unfold sfields at h
 cases hp : ifits m && (allC m && sin c (m.1.length : Int)) <;> simp only [hp, cond_true, cond_false] at h
 ·cases h
 injection h with h
 subst h
 simp only [Bool.and_eq_true, sin, decide_eq_true_eq] at hp
 obtain ⟨hi, ha, h0, h1⟩ := hp
 have hcB := allC_of ha h0 h1
 have hs := sup_lt hcB
 have hpc := preC_allC hi ha h0 h1
 have hab : sabove m c = some ((upFields m c : Int), upSlots m c, ()) := by unfold sabove; simp [hpc, hs]
 have hsm := upFields_small (fit_of hi) h0 h1 hcB
 rw [fieldsC_eq h0 h1 hs] at hsm ⊢
 unfold sfieldsN
 rw [hab]
 have hd : m.1.getD c.toNat zCl = clOf m c := rfl
 rw [hd]
 simp only [Option.bind_some, h0, h1, decide_true, Bool.and_self, cond_true]
 rw [w64' (by omega) (by omega)]
 congr 2
 omega
theorem sinstr_ok (m : Im) (x : Mt) (i : Ins) (f : Im × Unit) (r) (h : sinstr m x i f = some r) : sinstrN m x i f = some r := by
 unfold sinstr at h
 cases hp : preM m x && f.1 == m <;> simp only [hp, cond_true, cond_false] at h
 ·cases h
 injection h with h
 subst h
 simp only [Bool.and_eq_true, beq_iff_eq, preM] at hp
 obtain ⟨⟨hi, ha, hx⟩, hfm⟩ := hp
 obtain ⟨⟨x1, _⟩, ⟨x2, _⟩, _, ⟨x4, _⟩, _⟩ := mth_of hx
 unfold sinstrN instrB
 rw [hfm]
 have hw : IntKind.i64.wrap ((x.1.length : Int) + (x.2.1.length : Int)) = ((x.1.length + x.2.1.length : Nat) : Int) := by
  rw [w64' (by omega) (by omega)]; omega
 rw [hw]
 have h27 : ∀ a : Bool, (bif a then (bif sin i.2.1 (m.1.length : Int) then (sfields i.2.1 m).bind fun r9 => some (sin i.2.2.1 r9.1, ()) else some (false, ())) else none) =
   bif a then some (sin i.2.1 (m.1.length : Int) && sin i.2.2.1 (fieldsC m i.2.1 : Int), ()) else (none : Option (Bool × Unit)) := fun a => by
  cases a
  ·rfl
  ·simp only [cond_true]
   cases hsn : sin i.2.1 (m.1.length : Int)
   ·rfl
   ·have : sfields i.2.1 m = some ((fieldsC m i.2.1 : Int), ()) := by unfold sfields; simp [hi, ha, hsn]
    rw [this]; rfl
 have h27' := h27 true
 simp only [cond_true] at h27'
 have h32 : (bif sin i.2.1 (m.1.length : Int) then (bif decide (0 ≤ i.2.1) && decide (i.2.1 < m.1.length) then (some (sin i.2.2.1 ((m.1.getD i.2.1.toNat zCl).2.2.1.length : Int), ()) : Option (Bool × Unit)) else none) else some (false, ())) =
   some (sin i.2.1 (m.1.length : Int) && sin i.2.2.1 ((clOf m i.2.1).2.2.1.length : Int), ()) := by
  cases hsn : sin i.2.1 (m.1.length : Int)
  ·rfl
  ·have : 0 ≤ i.2.1 ∧ i.2.1 < (m.1.length : Int) := by simpa [sin] using hsn
   simp only [cond_true, this.1, this.2, decide_true, Bool.and_self, Bool.true_and]
   rfl
 simp only [h27', h32]
 cases i.1 == 1 <;> cases i.1 == 3 <;> cases i.1 == 4 <;> cases i.1 == 18 <;> cases i.1 == 19 <;> try rfl
 all_goals (cases i.1 == 22 <;> cases i.1 == 34 <;> cases i.1 == 27 <;> cases i.1 == 28 <;> cases i.1 == 29 <;> cases i.1 == 30 <;> cases i.1 == 31 <;> cases i.1 == 32 <;> rfl)
theorem smethod_ok (m : Im) (x : Mt) (r) (h : smethod m x = some r) : ∃ k, smethodN k m x = some r := by
 unfold smethod at h
 cases hp : preM m x <;> simp only [hp, cond_true, cond_false] at h
 ·cases h
 injection h with h
 subst h
 have hp' := hp
 simp only [Bool.and_eq_true, preM] at hp
 obtain ⟨hi, ha, hx⟩ := hp
 obtain ⟨⟨x1, _⟩, ⟨x2, _⟩, _, ⟨x4, _⟩, _⟩ := mth_of hx
 refine ⟨100, ?_⟩
 have key : loopF (smethodL1 m x) 100 ((0 : Int), ()) = bif x.2.2.2.1.all (instrB m x) then some (true, ()) else some (false, ()) := by
  refine loop_all (st := fun k => ((k : Int), ())) (p := instrB m x) (fun k i rec hk hlt => ?_) (fun rec => ?_) _ (by omega)
  ·rw [smethodL1]
   have hsi : sinstr m x i (m, ()) = some (instrB m x i, ()) := by unfold sinstr; simp [hp']
   simp only [dlt hlt, dge, Bool.and_self, cond_true, Int.toNat_natCast, getD_some hk, wsucc hlt (show x.2.2.2.1.length ≤ lenMax by simp only [lenMax]; omega), hsi, Option.bind_some]
   cases instrB m x i <;> rfl
  ·rw [smethodL1]
   simp only [dnlt, cond_false]
 unfold smethodN methodB
 rw [key, w64' (by omega) (by omega), len_bne]
 have hs1 : sall m [x.1, x.2.1] = (goods m x.1 && goods m x.2.1) := by simp [sall]
 have hs2 : sall m [[x.2.2.1]] = kgood x.2.2.1 (m.1.length : Int) := by simp [sall, goods]
 have hret : ((x.2.2.1.1 == 5) && ((x.2.2.1.2.1 == 0) && true)) = (x.2.2.1 == (5, 0, ())) := tp_beq x.2.2.1 (5, 0, ())
 rw [hs1, hs2, hret]
 have hz : ((x.2.2.2.1.length : Int) == 0) = decide (x.2.2.2.1.length = 0) := by
  by_cases hz : x.2.2.2.1.length = 0
  ·simp [hz]
  ·have : ¬ ((x.2.2.2.1.length : Int) = 0) := by omega
   simp [hz]
 have h8 : decide ((x.1.length : Int) + (x.2.1.length : Int) > 8) = !decide (x.1.length + x.2.1.length ≤ 8) := by
  by_cases h8 : x.1.length + x.2.1.length ≤ 8
  ·have : ¬ ((x.1.length : Int) + (x.2.1.length : Int) > 8) := by omega
   simp [h8, this]
  ·have : ((x.1.length : Int) + (x.2.1.length : Int) > 8) := by omega
   simp [h8, this]
 have hne : decide (x.2.2.2.1.length ≠ 0) = !decide (x.2.2.2.1.length = 0) := by by_cases h : x.2.2.2.1.length = 0 <;> simp [h]
 rw [hz, h8, hne]
 cases goods m x.1 <;> cases goods m x.2.1 <;> cases x.2.2.1 == (5, 0, ()) <;> cases kgood x.2.2.1 (m.1.length : Int) <;> cases decide (x.2.2.2.1.length = 0) <;> try rfl
 all_goals (cases decide (x.2.2.2.2.2.2.1.length = x.2.2.2.1.length) <;> cases decide (x.1.length + x.2.1.length ≤ 8) <;> cases x.2.2.2.1.all (instrB m x) <;> rfl)
theorem sentry1_eq (t : Tp) : sentry1N t = some (sentry1 t, ()) := by
 unfold sentry1N sentry1
 rw [Bool.and_true]
theorem sentry2_eq (t : Tp) (f : Unit) : sentry2N t f = some (sentry2 t f, ()) := rfl
theorem sentry_ok (m : Im) (f : Int) (r) (h : sentry m f = some r) : sentryN m f = some r := by
 injection h with h
 subst h
 unfold sentryN entryB containsEntry
 have ha : ((mtOf m f).1.any fun t => sentry2 t ()) = !(mtOf m f).1.all sentry1 := any_not sentry1 _
 have hd : m.2.2.2.1.getD f.toNat zMt = mtOf m f := rfl
 rw [hd, ha]
 cases hs : sin f (m.2.2.2.1.length : Int)
 ·rfl
 ·have hr : 0 ≤ f ∧ f < (m.2.2.2.1.length : Int) := by simpa [sin] using hs
  simp only [hr.1, hr.2, decide_true, Bool.and_self, Bool.not_true, cond_true, cond_false, Bool.not_not]
  cases sentry1 (mtOf m f).2.2.1 <;> cases (mtOf m f).2.2.1.1 == 5 <;> cases (mtOf m f).1.all sentry1 <;> rfl
theorem scheck_eq (m : Im) (_ : scheckLen m) : ∃ k, scheckN k m = some (scheck m, ()) := by
 refine ⟨100, ?_⟩
 unfold scheckN scheck
 cases hi : ifits m
 ·rfl
 have hf := fit_of hi
 have hall : sall m [m.2.1] = goods m m.2.1 := by simp [sall]
 rw [hall]
 simp only [Bool.not_true, cond_false, cond_true]
 unfold saneB
 cases goods m m.2.1
 ·rfl
 simp only [Bool.not_true, cond_false, Bool.true_and]
 have hent := hf.entries
 simp only [inums, Bool.and_eq_true, decide_eq_true_eq] at hent
 have h8 := hf.classes
 have h12 := hf.methods
 have key1 : loopF (scheckL1 m) 100 ((0 : Int), ()) = bif m.2.2.2.2.1.all (entryB m) then some ((0 : Int), ()) else some ((3 : Int), ()) := by
  refine loop_all (st := fun k => ((k : Int), ())) (p := entryB m) (fun k f rec hk hlt => ?_) (fun rec => ?_) _ (by omega)
  ·rw [scheckL1]
   simp only [dlt hlt, dge, Bool.and_self, cond_true, Int.toNat_natCast, getD_some hk, wsucc hlt (show m.2.2.2.2.1.length ≤ lenMax by simp only [lenMax]; omega), sentry, Option.bind_some]
   cases entryB m f <;> rfl
  ·rw [scheckL1]
   simp only [dnlt, cond_false]
 have key3 : loopF (scheckL3 m 100) 100 ((0 : Int), ()) = bif allC m then (bif m.2.2.2.1.all (methodB m) then (bif m.2.2.2.2.1.all (entryB m) then some ((0 : Int), ()) else some ((3 : Int), ())) else some ((3 : Int), ())) else some ((3 : Int), ()) := by
  cases hac : allC m with
  | false =>
   have : loopF (scheckL3 m 100) 100 ((0 : Int), ()) = bif (List.range m.1.length).all (fun k => classB m (k : Int)) then loopF (scheckL2 m 100) 100 ((0 : Int), ()) else some ((3 : Int), ()) := by
    refine loop_hist (st := fun k => ((k : Int), ())) (q := fun k => classB m (k : Int)) (fun k rec hlt hh => ?_) (fun rec => ?_) _ (by omega)
    ·rw [scheckL3]
     have hpc : preC m (k : Int) = true := by
      simp only [preC, Bool.and_eq_true, decide_eq_true_eq]
      exact ⟨hi, by omega, by omega, range_all.2 fun j hj => hh j (by omega)⟩
     have hsc : sclass m (k : Int) = some (classB m (k : Int), ()) := by unfold sclass; rw [hpc]; rfl
     simp only [dlt hlt, cond_true, hsc, Option.bind_some, wsucc hlt (show m.1.length ≤ lenMax by simp only [lenMax]; omega)]
     cases classB m (k : Int) <;> rfl
    ·rw [scheckL3]
     simp only [dnlt, cond_false]
   rw [this]
   have hac' : (List.range m.1.length).all (fun k => classB m (k : Int)) = false := hac
   rw [hac']; rfl
  | true =>
   have : loopF (scheckL3 m 100) 100 ((0 : Int), ()) = bif (List.range m.1.length).all (fun k => classB m (k : Int)) then loopF (scheckL2 m 100) 100 ((0 : Int), ()) else some ((3 : Int), ()) := by
    refine loop_hist (st := fun k => ((k : Int), ())) (q := fun k => classB m (k : Int)) (fun k rec hlt hh => ?_) (fun rec => ?_) _ (by omega)
    ·rw [scheckL3]
     have hpc : preC m (k : Int) = true := by
      simp only [preC, Bool.and_eq_true, decide_eq_true_eq]
      exact ⟨hi, by omega, by omega, range_all.2 fun j hj => hh j (by omega)⟩
     have hsc : sclass m (k : Int) = some (classB m (k : Int), ()) := by unfold sclass; rw [hpc]; rfl
     simp only [dlt hlt, cond_true, hsc, Option.bind_some, wsucc hlt (show m.1.length ≤ lenMax by simp only [lenMax]; omega)]
     cases classB m (k : Int) <;> rfl
    ·rw [scheckL3]
     simp only [dnlt, cond_false]
   rw [this]
   have hac' : (List.range m.1.length).all (fun k => classB m (k : Int)) = true := hac
   rw [hac']
   simp only [cond_true]
   refine loop_all (st := fun k => ((k : Int), ())) (p := methodB m) (fun k x rec hk hlt => ?_) (fun rec => ?_) _ (by omega)
   ·rw [scheckL2]
    have hpm : preM m x = true := by
     simp only [preM, Bool.and_eq_true]
     exact ⟨hi, hac, hf.mts x (List.mem_of_getElem? hk)⟩
    have hsm : smethod m x = some (methodB m x, ()) := by unfold smethod; rw [hpm]; rfl
    simp only [dlt hlt, dge, Bool.and_self, cond_true, Int.toNat_natCast, getD_some hk, hsm, Option.bind_some, wsucc hlt (show m.2.2.2.1.length ≤ lenMax by simp only [lenMax]; omega)]
    cases methodB m x <;> rfl
   ·rw [scheckL2]
    simp only [dnlt, cond_false]
    exact key1
 rw [key3]
 cases allC m <;> cases m.2.2.2.1.all (methodB m) <;> cases m.2.2.2.2.1.all (entryB m) <;> rfl
end Go.Pli
