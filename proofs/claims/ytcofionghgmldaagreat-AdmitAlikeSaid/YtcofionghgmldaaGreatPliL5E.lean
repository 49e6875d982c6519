/- Sane, by the reference: what the functions come to. -/
import Derived.Test.YtcofionghgmldaaGreatPliL5A
namespace Go.Pli
open Go Go.PM
theorem chain_mem {l : List Cl} {x : Int} : ∀ (n : Nat) (c : Int), c.toNat < n → x ∈ chain l c → 0 ≤ x ∧ x ≤ c
 | 0, _, h, _ => by omega
 | n + 1, c, h, hx => by
  by_cases hc : c < 0
  ·rw [chain_neg hc] at hx; simp at hx
  ·rw [chain_step (by omega)] at hx
   have hlt := kup_lt (l := l) (c := c) (by omega)
   rcases List.mem_cons.1 hx with rfl | hx
   ·omega
   ·by_cases hk : kup l c < 0
    ·rw [chain_neg hk] at hx; simp at hx
    ·have := chain_mem n (kup l c) (by omega) hx
     omega
theorem raboveB_mem {l : List Cl} {c x : Int} (h : x ∈ raboveB l c) : 0 ≤ x ∧ x < (l.length : Int) := by
 unfold raboveB at h
 by_cases hc : c < (l.length : Int)
 ·simp only [hc, decide_true, cond_true] at h
  have := chain_mem (c.toNat + 1) c (by omega) h
  omega
 ·simp [hc] at h
theorem raboveB_len {l : List Cl} {c : Int} : (raboveB l c).length ≤ l.length + 1 := by
 unfold raboveB
 by_cases hc : c < (l.length : Int)
 ·simp only [hc, decide_true, cond_true]
  have := chain_len l (c.toNat + 1) c (by omega)
  omega
 ·simp [hc]
theorem fields_loop (m : Im) (hf : Fit m) (rs : List Int) (hr : ∀ x ∈ rs, 0 ≤ x ∧ x < (m.1.length : Int)) : ∀ (k F : Nat) (out : List Tp), k ≤ rs.length → k < 100 → k < F → out.length + 8 * k < 10000 →
  loopF (r5fieldsL1 m (rs, ())) F (out, (k : Int) - 1, ()) = some (out ++ (((rs.take k).reverse).map fun s => (clOf m s).2.1).flatten, ())
 | 0, F, out, _, _, hF, _ => by
  obtain ⟨F, rfl⟩ : ∃ n, F = n + 1 := ⟨F - 1, by omega⟩
  rw [loopF_step, r5fieldsL1]
  simp
 | k + 1, F, out, hk, hk100, hF, ho => by
  obtain ⟨F, rfl⟩ : ∃ n, F = n + 1 := ⟨F - 1, by omega⟩
  have hlt : k < rs.length := by omega
  have hg := List.getElem?_eq_getElem hlt
  have hmem : rs[k] ∈ rs := List.getElem_mem hlt
  obtain ⟨x0, x1⟩ := hr _ hmem
  have hcls := (cls_of (hf.cls _ (clOf_mem x0 x1))).2.1.1
  have hd : m.1.getD (rs[k]).toNat zCl = clOf m rs[k] := rfl
  have e : (((k + 1 : Nat) : Int) - 1) = (k : Int) := by omega
  rw [loopF_step, r5fieldsL1, e]
  have hroom : out.length + (clOf m rs[k]).2.1.length < rowMax := by simp only [rowMax]; omega
  have hge : decide ((k : Int) ≥ 0) = true := dge0 k
  simp only [hge, dlt hlt, Bool.and_self, cond_true, Int.toNat_natCast, getD_some hg, x0, x1, hd, hroom, decide_true]
  rw [w64' (by omega) (by omega), fields_loop m hf rs hr k F _ (by omega) (by omega) (by omega) (by simp only [List.length_append]; omega)]
  rw [List.take_succ_eq_append_getElem hlt]
  simp only [List.reverse_append, List.reverse_cons, List.reverse_nil, List.nil_append, List.cons_append, List.map_cons, List.flatten_cons, List.append_assoc]
theorem r5fields_ok (m : Im) (c : Int) (r) (h : r5fields m c = some r) : ∃ k, r5fieldsN k m c = some r := by
 unfold r5fields at h
 cases hi : ifits m <;> simp only [hi, cond_true, cond_false] at h
 ·cases h
 injection h with h
 subst h
 have hf := fit_of hi
 have h8 := hf.classes
 have hok : okL m.1 = true := by unfold okL; simp; omega
 have hlen := raboveB_len (l := m.1) (c := c)
 refine ⟨100, ?_⟩
 unfold r5fieldsN rabove
 rw [hok]
 simp only [cond_true, Option.bind_some]
 rw [w64' (by omega) (by omega), fields_loop m hf _ (fun x hx => raboveB_mem hx) (raboveB m.1 c).length 100 [] (by omega) (by omega) (by omega) (by simp; omega), List.take_length]
 simp
end Go.Pli

namespace Go.Pli
open Go Go.PM
theorem maxCode (l : List Mt) : ∃ M, ∀ x ∈ l, x.2.2.2.1.length ≤ M := by
 obtain ⟨M, hM⟩ := maxLen_le (l.map fun x => x.2.2.2.1.map fun _ => zTp)
 exact ⟨M, fun x hx => by
  have := hM (x.2.2.2.1.map fun _ => zTp) (List.mem_map.2 ⟨x, hx, rfl⟩)
  simpa using this⟩
theorem r5same_eq (a b : Im) (h : r5sameLen a b) : ∃ k, r5sameN k a b = some (r5same a b, ()) := by
 obtain ⟨M, hM⟩ := maxCode a.2.2.2.1
 obtain ⟨F, hF⟩ : ∃ F, F = a.1.length + a.2.2.1.length + a.2.2.2.1.length + M + 1 := ⟨_, rfl⟩
 refine ⟨F, ?_⟩
 unfold r5sameN r5same rtypes rints
 simp only [bne_not]
 rw [← im_beq]
 by_cases h1 : a.1.length = b.1.length
 ·by_cases h4 : a.2.2.2.1.length = b.2.2.2.1.length
  ·by_cases h3 : a.2.2.1.length = b.2.2.1.length
   ·have k2 : loopF (r5sameL2 a b F) F ((0 : Int), ()) = bif a.2.2.2.1 == b.2.2.2.1 then some (true, ()) else some (false, ()) := by
     refine loop_zip (st := fun k => ((k : Int), ())) h4 (fun k x y rec hx hy hka hkb => ?_) (fun rec => ?_) _ (by omega)
     ·rw [r5sameL2]
      have hxl := (h.1.2.2.2.1.2 x (List.mem_of_getElem? hx)).2.2.2.1.1
      have hxM := hM x (List.mem_of_getElem? hx)
      simp only [dlt hka, dlt hkb, dge, Bool.and_self, cond_true, Int.toNat_natCast, getD_some hx, getD_some hy, bne_not, rtypes, rints, tp_beq]
      rw [← mt_beq]
      by_cases hcl : x.2.2.2.1.length = y.2.2.2.1.length
      ·have inner : loopF (r5sameL1 a b ((k : Int), ()) rec) F ((0 : Int), ()) = bif x.2.2.2.1 == y.2.2.2.1 then rec (((k + 1 : Nat) : Int), ()) else some (false, ()) := by
        refine loop_zip (st := fun j => ((j : Int), ())) hcl (fun j u v rec2 hu hv hja hjb => ?_) (fun rec2 => ?_) _ (by omega)
        ·rw [r5sameL1]
         simp only [Int.toNat_natCast, getD_some hx, getD_some hy, dlt hja, dlt hjb, dge, Bool.and_self, cond_true, getD_some hu, getD_some hv, wsucc hja hxl, ins_beq]
         cases u == v <;> rfl
        ·rw [r5sameL1]
         simp only [Int.toNat_natCast, getD_some hx, dnlt, cond_false, wsucc hka h.1.2.2.2.1.1]
       rw [inner]
       have hbe : ((x.2.2.2.1.length : Int) == (y.2.2.2.1.length : Int)) = true := by simp [hcl]
       simp only [hbe, Bool.not_true, cond_false]
       cases x.1 == y.1 <;> cases x.2.1 == y.2.1 <;> cases x.2.2.1 == y.2.2.1 <;> cases x.2.2.2.1 == y.2.2.2.1 <;> cases x.2.2.2.2.1 == y.2.2.2.2.1 <;> cases x.2.2.2.2.2.1 == y.2.2.2.2.2.1 <;> cases x.2.2.2.2.2.2.1 == y.2.2.2.2.2.2.1 <;> rfl
      ·rw [zip_len hcl]
       have hbe : ((x.2.2.2.1.length : Int) == (y.2.2.2.1.length : Int)) = false := by simp; omega
       simp only [hbe, Bool.not_false, cond_true]
       cases x.1 == y.1 <;> cases x.2.1 == y.2.1 <;> cases x.2.2.1 == y.2.2.1 <;> rfl
     ·rw [r5sameL2]
      simp only [dnlt, cond_false]
    have k3 : loopF (r5sameL3 a b F) F ((0 : Int), ()) = bif a.1 == b.1 then (bif a.2.2.2.1 == b.2.2.2.1 then some (true, ()) else some (false, ())) else some (false, ()) := by
     refine loop_zip (st := fun k => ((k : Int), ())) h1 (fun k x y rec hx hy hka hkb => ?_) (fun rec => ?_) _ (by omega)
     ·rw [r5sameL3]
      simp only [dlt hka, dlt hkb, dge, Bool.and_self, cond_true, Int.toNat_natCast, getD_some hx, getD_some hy, bne_not, rtypes, rints, wsucc hka h.1.1.1]
      rw [← cl_beq]
      cases x.1 == y.1 <;> cases x.2.1 == y.2.1 <;> cases x.2.2.1 == y.2.2.1 <;> rfl
     ·rw [r5sameL3]
      simp only [dnlt, cond_false, k2]
    have k4 : loopF (r5sameL4 a b F) F ((0 : Int), ()) = bif a.2.2.1 == b.2.2.1 then (bif a.1 == b.1 then (bif a.2.2.2.1 == b.2.2.2.1 then some (true, ()) else some (false, ())) else some (false, ())) else some (false, ()) := by
     refine loop_zip (st := fun k => ((k : Int), ())) h3 (fun k x y rec hx hy hka hkb => ?_) (fun rec => ?_) _ (by omega)
     ·rw [r5sameL4]
      simp only [dlt hka, dlt hkb, dge, Bool.and_self, cond_true, Int.toNat_natCast, getD_some hx, getD_some hy, bne_not, wsucc hka h.1.2.2.1.1]
      cases x == y <;> rfl
     ·rw [r5sameL4]
      simp only [dnlt, cond_false, k3]
    rw [k4]
    have e1 : ((a.1.length : Int) == (b.1.length : Int)) = true := by simp [h1]
    have e4 : ((a.2.2.2.1.length : Int) == (b.2.2.2.1.length : Int)) = true := by simp [h4]
    have e3 : ((a.2.2.1.length : Int) == (b.2.2.1.length : Int)) = true := by simp [h3]
    simp only [e1, e3, e4, Bool.not_true, cond_false]
    cases a.1 == b.1 <;> cases a.2.1 == b.2.1 <;> cases a.2.2.1 == b.2.2.1 <;> cases a.2.2.2.1 == b.2.2.2.1 <;> cases a.2.2.2.2.1 == b.2.2.2.2.1 <;> cases a.2.2.2.2.2.1 == b.2.2.2.2.2.1 <;> cases a.2.2.2.2.2.2.1 == b.2.2.2.2.2.2.1 <;> rfl
   ·have e3 : ((a.2.2.1.length : Int) == (b.2.2.1.length : Int)) = false := by simp; omega
    rw [zip_len h3]
    simp [e3]
  ·have e4 : ((a.2.2.2.1.length : Int) == (b.2.2.2.1.length : Int)) = false := by simp; omega
   rw [zip_len h4]
   simp [e4]
 ·have e1 : ((a.1.length : Int) == (b.1.length : Int)) = false := by simp; omega
  rw [zip_len h1]
  simp [e1]
theorem an_ok {α : Type} {l : List α} (h : l.length < 1000000) : decide (([] : List α).length + l.length < rowMax) = true := decide_eq_true (by simp [rowMax]; omega)
theorem anT_eq {l : List Tp} (h : l.length < 1000000) : anTN l = some (l, ()) := by unfold anTN cloneTN; rw [an_ok h]; rfl
theorem anJ_eq {l : List Int} (h : l.length < 1000000) : anJN l = some (l, ()) := by unfold anJN cloneJN; rw [an_ok h]; rfl
theorem anI_eq {l : List Int} (h : l.length < 1000000) : anIN l = some (l, ()) := by unfold anIN cloneIN; rw [an_ok h]; rfl
theorem anX_eq {l : List Ins} (h : l.length < 1000000) : anXN l = some (l, ()) := by unfold anXN cloneXN; rw [an_ok h]; rfl
theorem loop_map {α β σ R : Type} {L : σ → (σ → Option R) → Option R} {xs : List α} {f : α → β} {st : Nat → List β → σ} {fin : Option R}
  (h1 : ∀ (k : Nat) (x : α) (acc : List β) (rec), xs[k]? = some x → k < xs.length → acc.length = k → L (st k acc) rec = rec (st (k + 1) (acc ++ [f x])))
  (h2 : ∀ rec, L (st xs.length (xs.map f)) rec = fin) : ∀ F : Nat, xs.length < F → loopF L F (st 0 []) = fin := by
 have key : ∀ (l pre : List α) (F : Nat), xs = pre ++ l → l.length < F → loopF L F (st pre.length (pre.map f)) = fin := by
  intro l
  induction l with
  | nil =>
   intro pre F hx hF
   obtain ⟨F, rfl⟩ : ∃ n, F = n + 1 := ⟨F - 1, by simp at hF; omega⟩
   rw [List.append_nil] at hx
   subst hx
   rw [loopF_step, h2]
  | cons x l ih =>
   intro pre F hx hF
   obtain ⟨F, rfl⟩ : ∃ n, F = n + 1 := ⟨F - 1, by simp at hF; omega⟩
   have hk : xs[pre.length]? = some x := by rw [hx]; simp
   have hl : pre.length < xs.length := by rw [hx]; simp
   rw [loopF_step, h1 pre.length x _ _ hk hl (by simp)]
   have := ih (pre ++ [x]) F (by rw [hx]; simp) (by simp only [List.length_cons] at hF; omega)
   simpa using this
 intro F hF
 exact key xs [] F rfl hF
theorem icopy_ok (m : Im) (r) (h : icopy m = some r) : ∃ k, icopyN k m = some r := by
 unfold icopy at h
 cases hi : ifits m <;> simp only [hi, cond_true, cond_false] at h
 ·cases h
 injection h with h
 subst h
 have hf := fit_of hi
 have h8 := hf.classes
 have h12 := hf.methods
 have h16 := hf.ints
 have hst := hf.statics
 have hent := hf.entries
 simp only [itypes, inums, Bool.and_eq_true, decide_eq_true_eq] at hst hent
 refine ⟨100, ?_⟩
 have k1 : loopF (icopyL1 m) 100 ((0 : Int), (m.1, m.2.1, m.2.2.1, ([] : List Mt), m.2.2.2.2.1, m.2.2.2.2.2), ()) = some (m, ()) := by
  refine loop_map (xs := m.2.2.2.1) (f := id) (st := fun k acc => ((k : Int), (m.1, m.2.1, m.2.2.1, acc, m.2.2.2.2.1, m.2.2.2.2.2), ())) (fun k x acc rec hk hlt hacc => ?_) (fun rec => ?_) 100 (by omega)
  ·rw [icopyL1]
   obtain ⟨⟨x1, _⟩, ⟨x2, _⟩, _, ⟨x4, _⟩, _, _, ⟨x7, _⟩⟩ := mth_of (hf.mts x (List.mem_of_getElem? hk))
   have hroom : ∀ y : Mt, decide (acc.length + [y].length < rowMax) = true := fun y => decide_eq_true (by simp [rowMax]; omega)
   simp only [dlt hlt, dge, Bool.and_self, cond_true, Int.toNat_natCast, getD_some hk, anT_eq (show x.1.length < 1000000 by omega), anT_eq (show x.2.1.length < 1000000 by omega), anX_eq (show x.2.2.2.1.length < 1000000 by omega),
    anI_eq (show x.2.2.2.2.2.2.1.length < 1000000 by omega), Option.bind_some, hroom, wsucc hlt (show m.2.2.2.1.length ≤ lenMax by simp only [lenMax]; omega)]
   rfl
  ·rw [icopyL1]
   simp only [dnlt, cond_false, List.map_id]
   rfl
 have k2 : loopF (icopyL2 m 100) 100 ((0 : Int), (([] : List Cl), m.2.1, m.2.2.1, ([] : List Mt), m.2.2.2.2.1, m.2.2.2.2.2), ()) = some (m, ()) := by
  refine loop_map (xs := m.1) (f := id) (st := fun k acc => ((k : Int), (acc, m.2.1, m.2.2.1, ([] : List Mt), m.2.2.2.2.1, m.2.2.2.2.2), ())) (fun k x acc rec hk hlt hacc => ?_) (fun rec => ?_) 100 (by omega)
  ·rw [icopyL2]
   obtain ⟨_, ⟨c3, _⟩, ⟨c5, _⟩⟩ := cls_of (hf.cls x (List.mem_of_getElem? hk))
   have hroom : ∀ y : Cl, decide (acc.length + [y].length < rowMax) = true := fun y => decide_eq_true (by simp [rowMax]; omega)
   simp only [dlt hlt, dge, Bool.and_self, cond_true, Int.toNat_natCast, getD_some hk, anT_eq (show x.2.1.length < 1000000 by omega), anI_eq (show x.2.2.1.length < 1000000 by omega), Option.bind_some, hroom,
    wsucc hlt (show m.1.length ≤ lenMax by simp only [lenMax]; omega)]
   rfl
  ·rw [icopyL2]
   simp only [dnlt, cond_false, List.map_id]
   exact k1
 unfold icopyN
 rw [anT_eq (by omega), anJ_eq (by omega), anI_eq (by omega)]
 exact k2
end Go.Pli

namespace Go.Pli
open Go Go.PM
theorem encR_append {α : Type} (e : α → List Int) (x : α) : ∀ l : List α, encR e (l ++ [x]) = encR e l ++ e x
 | [] => by simp [encR]
 | y :: l => by simp [encR, encR_append e x l]
theorem encR_len {α : Type} {e : α → List Int} {B : Nat} : ∀ {l : List α}, (∀ x ∈ l, (e x).length ≤ B) → (encR e l).length ≤ B * l.length
 | [], _ => by simp [encR]
 | x :: l, h => by
  have h1 := h x (by simp)
  have h2 := encR_len (l := l) fun y hy => h y (by simp [hy])
  simp only [encR, List.length_append, List.length_cons, Nat.mul_add, Nat.mul_one]
  omega
theorem loop_put {α σ R : Type} {L : σ → (σ → Option R) → Option R} {xs : List α} {e : α → List Int} {B : Nat} {st : Nat → List Int → σ} {fin : Option R} (b0 : List Int)
  (he : ∀ x ∈ xs, (e x).length ≤ B)
  (h1 : ∀ (k : Nat) (x : α) (b : List Int) (rec), xs[k]? = some x → k < xs.length → b.length ≤ b0.length + B * xs.length → L (st k b) rec = rec (st (k + 1) (b ++ e x)))
  (h2 : ∀ rec, L (st xs.length (b0 ++ encR e xs)) rec = fin) : ∀ F : Nat, xs.length < F → loopF L F (st 0 b0) = fin := by
 have key : ∀ (l pre : List α) (F : Nat), xs = pre ++ l → l.length < F → loopF L F (st pre.length (b0 ++ encR e pre)) = fin := by
  intro l
  induction l with
  | nil =>
   intro pre F hx hF
   obtain ⟨F, rfl⟩ : ∃ n, F = n + 1 := ⟨F - 1, by simp at hF; omega⟩
   rw [List.append_nil] at hx
   subst hx
   rw [loopF_step, h2]
  | cons x l ih =>
   intro pre F hx hF
   obtain ⟨F, rfl⟩ : ∃ n, F = n + 1 := ⟨F - 1, by simp at hF; omega⟩
   have hk : xs[pre.length]? = some x := by rw [hx]; simp
   have hl : pre.length < xs.length := by rw [hx]; simp
   have hp := encR_len (e := e) (B := B) (l := pre) fun y hy => he y (by rw [hx]; simp [hy])
   have hm := Nat.mul_le_mul_left B (show pre.length ≤ xs.length by omega)
   rw [loopF_step, h1 pre.length x _ _ hk hl (by rw [List.length_append]; omega)]
   have := ih (pre ++ [x]) F (by rw [hx]; simp) (by simp only [List.length_cons] at hF; omega)
   rw [encR_append, ← List.append_assoc, List.length_append] at this
   exact this
 intro F hF
 have := key xs [] F rfl hF
 simpa [encR] using this
theorem encI_ienc (i : Ins) : encI i = ienc i := by
 unfold encI ienc
 by_cases h1 : iargs i.1 < 1
 ·have h2 : iargs i.1 < 2 := by omega
  simp [h1, h2]
 ·simp [h1]
theorem encT_len (t : Tp) : (encT t).length ≤ 22 := by
 unfold encT
 have l1 := enc_length t.1.toNat
 have l2 := enc_length t.2.1.toNat
 cases t.1 == 3 <;> simp <;> omega
theorem encTs_len (l : List Tp) : (encTs l).length ≤ 11 + 22 * l.length := by
 unfold encTs
 have l1 := enc_length l.length
 have l2 := encR_len (e := encT) (l := l) fun x _ => encT_len x
 rw [List.length_append]; omega
theorem encN_len (n : Int) : (encN n).length ≤ 11 := enc_length _
theorem encNs_len (l : List Int) : (encNs l).length ≤ 11 + 11 * l.length := by
 unfold encNs
 have l1 := enc_length l.length
 have l2 := encR_len (e := encN) (l := l) fun x _ => encN_len x
 rw [List.length_append]; omega
theorem encI_len (i : Ins) : (encI i).length ≤ 33 := by rw [encI_ienc]; exact (ienc_length i).2
theorem encM_len {x : Mt} (h : imethod x = true) : (encM x).length ≤ 3500 := by
 obtain ⟨⟨x1, _⟩, ⟨x2, _⟩, _, ⟨x4, _⟩, _, _, ⟨x7, _⟩⟩ := mth_of h
 unfold encM
 have a1 := encTs_len x.1
 have a2 := encTs_len x.2.1
 have a3 := encT_len x.2.2.1
 have a4 := enc_length x.2.2.2.1.length
 have a5 := encR_len (e := encI) (l := x.2.2.2.1) fun x _ => encI_len x
 have a6 := encN_len x.2.2.2.2.1
 have a7 := encN_len x.2.2.2.2.2.1
 have a8 := encNs_len x.2.2.2.2.2.2.1
 simp only [List.length_append]
 omega
theorem encC_len {c : Cl} (h : iclass c = true) : (encC c).length ≤ 300 := by
 obtain ⟨_, ⟨c3, _⟩, ⟨c5, _⟩⟩ := cls_of h
 unfold encC
 have a1 := encN_len (c.1 + 1)
 have a2 := encTs_len c.2.1
 have a3 := encNs_len c.2.2.1
 simp only [List.length_append]
 omega
theorem encZ_len (n : Int) : (encZ n).length ≤ 11 := enc_length _
theorem typ_range {t : Tp} (h : ityp t = true) : (0 ≤ t.1 ∧ t.1 ≤ 5) ∧ (0 ≤ t.2.1 ∧ t.2.1 ≤ 7) ∧ (t.1 ≠ 3 → t.2.1 = 0) := by
 simp only [ityp, iwithin, Bool.and_eq_true, Bool.or_eq_true, decide_eq_true_eq, beq_iff_eq] at h
 obtain ⟨h1, h2⟩ := h
 omega
theorem types_of {l : List Tp} {m : Int} (h : itypes l m = true) : (l.length : Int) ≤ m ∧ ∀ t ∈ l, ityp t = true := by
 simpa [itypes] using h
theorem nums_of {l : List Int} {c m : Int} (h : inums l c m = true) : (l.length : Int) ≤ c ∧ ∀ n ∈ l, 0 ≤ n ∧ n ≤ m := by
 simpa [inums, iwithin] using h
theorem itypes_more {l : List Tp} {m n : Int} (h : itypes l m = true) (hmn : m ≤ n) : itypes l n = true := by
 simp only [itypes, Bool.and_eq_true, decide_eq_true_eq] at h ⊢
 exact ⟨by omega, h.2⟩
theorem inums_more {l : List Int} {c m c' m' : Int} (h : inums l c m = true) (hc : c ≤ c') (hm : m ≤ m') : inums l c' m' = true := by
 simp only [inums, iwithin, Bool.and_eq_true, decide_eq_true_eq, List.all_eq_true] at h ⊢
 exact ⟨by omega, fun n hn => ⟨(h.2 n hn).1, by have := (h.2 n hn).2; omega⟩⟩
theorem room_far {n : Nat} (h : n < 1000000) : decide (n < rowMax) = true := decide_eq_true (by simp [rowMax]; omega)
theorem r5one_ok (t : Tp) (r) (h : r5one t = some r) : r5oneN t = some r := by
 unfold r5one at h
 cases hp : ityp t <;> simp only [hp, cond_true, cond_false] at h
 ·cases h
 injection h with h
 subst h
 obtain ⟨⟨t1, t2⟩, ⟨t3, t4⟩, _⟩ := typ_range hp
 have l1 := enc_length t.1.toNat
 have l2 := enc_length t.2.1.toNat
 have l3 := enc_length (3 : Int).toNat
 unfold r5oneN encT
 rw [rbytes_eq (by omega), rbytes_eq (n := t.2.1) (by omega), rbytes_eq (n := t.1) (by omega)]
 simp only [Option.bind_some]
 rw [room_far (by omega)]
 by_cases h3 : t.1 = 3
 ·rw [h3]; rfl
 ·have : (t.1 == 3) = false := by simpa using h3
  rw [this]
  simp
theorem r5one_eq {t : Tp} (h : ityp t = true) : r5one t = some (encT t, ()) := by unfold r5one; rw [h]; rfl
theorem r5several_eq {l : List Tp} (h : itypes l 8 = true) : r5several l = some (encTs l, ()) := by unfold r5several; rw [h]; rfl
theorem r5nums_eq {l : List Int} (h : inums l 64 4096 = true) : r5nums l = some (encNs l, ()) := by unfold r5nums; rw [h]; rfl
theorem r5several_ok (l : List Tp) (r) (h : r5several l = some r) : ∃ k, r5severalN k l = some r := by
 unfold r5several at h
 cases hp : itypes l 8 <;> simp only [hp, cond_true, cond_false] at h
 ·cases h
 injection h with h
 subst h
 obtain ⟨hl, ht⟩ := types_of hp
 have l1 := enc_length l.length
 refine ⟨l.length + 1, ?_⟩
 unfold r5severalN
 rw [rbytes_eq (by omega)]
 simp only [Option.bind_some, Int.toNat_natCast]
 refine loop_put (xs := l) (e := encT) (B := 22) (st := fun k b => (b, (k : Int), ())) (enc l.length) (fun x _ => encT_len x) (fun k x b' rec hk hlt hbl => ?_) (fun rec => ?_) _ (Nat.lt_succ_self _)
 ·rw [r5severalL1]
  have lx := encT_len x
  simp only [dlt hlt, dge, Bool.and_self, cond_true, Int.toNat_natCast, getD_some hk, wsucc hlt (show l.length ≤ lenMax by simp only [lenMax]; omega), r5one_eq (ht x (List.mem_of_getElem? hk)), Option.bind_some]
  rw [room_far (by omega)]
  rfl
 ·rw [r5severalL1]
  simp only [dnlt, cond_false, encTs]
theorem r5nums_ok (l : List Int) (r) (h : r5nums l = some r) : ∃ k, r5numsN k l = some r := by
 unfold r5nums at h
 cases hp : inums l 64 4096 <;> simp only [hp, cond_true, cond_false] at h
 ·cases h
 injection h with h
 subst h
 obtain ⟨hl, ht⟩ := nums_of hp
 have l1 := enc_length l.length
 refine ⟨l.length + 1, ?_⟩
 unfold r5numsN
 rw [rbytes_eq (by omega)]
 simp only [Option.bind_some, Int.toNat_natCast]
 refine loop_put (xs := l) (e := encN) (B := 11) (st := fun k b => (b, (k : Int), ())) (enc l.length) (fun x _ => encN_len x) (fun k x b' rec hk hlt hbl => ?_) (fun rec => ?_) _ (Nat.lt_succ_self _)
 ·rw [r5numsL1]
  have lx := enc_length x.toNat
  have hx := ht x (List.mem_of_getElem? hk)
  simp only [dlt hlt, dge, Bool.and_self, cond_true, Int.toNat_natCast, getD_some hk, wsucc hlt (show l.length ≤ lenMax by simp only [lenMax]; omega)]
  rw [rbytes_eq (by omega)]
  simp only [Option.bind_some]
  rw [room_far (by omega)]
  rfl
 ·rw [r5numsL1]
  simp only [dnlt, cond_false, encNs]
theorem rbytesB {n : Int} (h : n < 9223372036854775808) : rbytes n = some (encN n, ()) := rbytes_eq h
theorem rsignB {n : Int} (h0 : -2147483648 ≤ n) (h1 : n ≤ 2147483647) : rsignedN n = some (encZ n, ()) := rsignedN_eq h0 h1
theorem r5encode_ok (m : Im) (r) (h : r5encode m = some r) : ∃ k, r5encodeN k m = some r := by
 unfold r5encode at h
 cases hp : ifits m && ints32 m.2.2.1 <;> simp only [hp, cond_true, cond_false] at h
 ·cases h
 injection h with h
 subst h
 simp only [Bool.and_eq_true] at hp
 obtain ⟨hi, h32⟩ := hp
 have hf := fit_of hi
 have h8 := hf.classes
 have h12 := hf.methods
 have h16 := hf.ints
 have hst := hf.statics
 have hent := hf.entries
 have hs1 := hf.stack
 have hs2 := hf.heap
 obtain ⟨hst1, hst2⟩ := types_of hst
 obtain ⟨hen1, hen2⟩ := nums_of hent
 simp only [iwithin, Bool.and_eq_true, decide_eq_true_eq] at hs1 hs2
 have hint : ∀ n ∈ m.2.2.1, -2147483648 ≤ n ∧ n ≤ 2147483647 := by simpa [ints32] using h32
 have a0 := encN_len (m.1.length : Int)
 have a1 := encR_len (e := encC) (l := m.1) fun c hc => encC_len (hf.cls c hc)
 have a2 := encTs_len m.2.1
 have a3 := encN_len (m.2.2.1.length : Int)
 have a4 := encR_len (e := encZ) (l := m.2.2.1) fun n _ => encZ_len n
 have a5 := encN_len (m.2.2.2.1.length : Int)
 have a6 := encR_len (e := encM) (l := m.2.2.2.1) fun x hx => encM_len (hf.mts x hx)
 have a7 := encNs_len m.2.2.2.2.1
 have a8 := encN_len m.2.2.2.2.2.1
 have a9 := encN_len m.2.2.2.2.2.2.1
 refine ⟨100, ?_⟩
 have k2 : loopF (r5encodeL2 m 100) 100 (mark ++ encN (m.1.length : Int) ++ encR encC m.1 ++ encTs m.2.1 ++ encN (m.2.2.1.length : Int) ++ encR encZ m.2.2.1 ++ encN (m.2.2.2.1.length : Int), ((0 : Int), ())) = some (encIm m, ()) := by
  refine loop_put (xs := m.2.2.2.1) (e := encM) (B := 3500) (st := fun k b => (b, (k : Int), ())) (mark ++ encN (m.1.length : Int) ++ encR encC m.1 ++ encTs m.2.1 ++ encN (m.2.2.1.length : Int) ++ encR encZ m.2.2.1 ++ encN (m.2.2.2.1.length : Int)) (fun x hx => encM_len (hf.mts x hx)) (fun k x b' rec hk hlt hbl => ?_) (fun rec => ?_) _ (by omega)
  ·rw [r5encodeL2]
   have hm := hf.mts x (List.mem_of_getElem? hk)
   obtain ⟨⟨x1, _⟩, ⟨x2, _⟩, hret, ⟨x4, hgood⟩, x5, x6, ⟨x7, _⟩⟩ := mth_of hm
   simp only [imethod, Bool.and_eq_true] at hm
   obtain ⟨hm1, hm2, _, _, _, _, _, hm7⟩ := hm
   have b1 := encTs_len x.1
   have b2 := encTs_len x.2.1
   have b3 := encT_len x.2.2.1
   have b4 := encN_len (x.2.2.2.1.length : Int)
   have b5 := encR_len (e := encI) (l := x.2.2.2.1) fun x _ => encI_len x
   have b6 := encN_len x.2.2.2.2.1
   have b7 := encN_len x.2.2.2.2.2.1
   have b8 := encNs_len x.2.2.2.2.2.2.1
   simp only [List.length_append, mark, List.length_cons, List.length_nil] at hbl
   simp only [dlt hlt, dge, Bool.and_self, cond_true, Int.toNat_natCast, getD_some hk, r5several_eq (itypes_more hm1 (by omega : (4 : Int) ≤ 8)), r5several_eq hm2, r5one_eq hret, Option.bind_some, rbytesB (n := (x.2.2.2.1.length : Int)) (by omega),
    room_far (show b'.length + (encTs x.1).length < 1000000 by omega), room_far (show (b' ++ encTs x.1).length + (encTs x.2.1).length < 1000000 by simp only [List.length_append]; omega),
    room_far (show (b' ++ encTs x.1 ++ encTs x.2.1).length + (encT x.2.2.1).length < 1000000 by simp only [List.length_append]; omega), room_far (show (b' ++ encTs x.1 ++ encTs x.2.1 ++ encT x.2.2.1).length + (encN (x.2.2.2.1.length : Int)).length < 1000000 by simp only [List.length_append]; omega)]
   refine loop_put (xs := x.2.2.2.1) (e := encI) (B := 33) (st := fun k b => (b, (k : Int), ())) (b' ++ encTs x.1 ++ encTs x.2.1 ++ encT x.2.2.1 ++ encN (x.2.2.2.1.length : Int)) (fun x _ => encI_len x) (fun j i b2 rec2 hj hlj hbl2 => ?_) (fun rec2 => ?_) _ (by omega)
   ·rw [r5encodeL1]
    obtain ⟨⟨i1, i2⟩, ⟨i3, i4⟩, ⟨i5, i6⟩, _⟩ := good_range (hgood i (List.mem_of_getElem? hj))
    have c1 := encN_len i.1
    have c2 := encN_len i.2.1
    have c3 := encN_len i.2.2.1
    simp only [List.length_append] at hbl2
    simp only [Int.toNat_natCast, getD_some hk, dlt hlj, dge, Bool.and_self, cond_true, getD_some hj, rbytesB (n := i.1) (by omega), rbytesB (n := i.2.1) (by omega), rbytesB (n := i.2.2.1) (by omega), Option.bind_some,
     room_far (show b2.length + (encN i.1).length < 1000000 by omega), room_far (show (b2 ++ encN i.1).length + (encN i.2.1).length < 1000000 by simp only [List.length_append]; omega), rargs,
     wsucc hlj (show x.2.2.2.1.length ≤ lenMax by simp only [lenMax]; omega)]
    unfold encI
    by_cases g1 : iargs i.1 < 1
    ·have g2 : ¬ iargs i.1 > 0 := by omega
     have g3 : ¬ iargs i.1 > 1 := by omega
     have g4 : iargs i.1 < 2 := by omega
     simp only [g1, g2, g3, g4, decide_true, decide_false, cond_true, cond_false, Option.bind_some, List.append_nil]
     rfl
    ·have g2 : iargs i.1 > 0 := by omega
     by_cases g4 : iargs i.1 < 2
     ·have g3 : ¬ iargs i.1 > 1 := by omega
      simp only [g1, g2, g3, g4, decide_true, decide_false, cond_true, cond_false, Option.bind_some, List.append_nil, List.append_assoc]
      rfl
     ·have g3 : iargs i.1 > 1 := by omega
      simp only [g1, g2, g3, g4, decide_true, decide_false, cond_true, cond_false, Option.bind_some, room_far (show (b2 ++ encN i.1 ++ encN i.2.1).length + (encN i.2.2.1).length < 1000000 by simp only [List.length_append]; omega)]
      simp only [List.append_assoc]
      rfl
   ·rw [r5encodeL1]
    simp only [Int.toNat_natCast, getD_some hk, dnlt, cond_false, cond_true, rbytesB (n := x.2.2.2.2.1) (by omega), rbytesB (n := x.2.2.2.2.2.1) (by omega), r5nums_eq hm7, Option.bind_some,
     room_far (show (b' ++ encTs x.1 ++ encTs x.2.1 ++ encT x.2.2.1 ++ encN (x.2.2.2.1.length : Int) ++ encR encI x.2.2.2.1).length + (encN x.2.2.2.2.1).length < 1000000 by simp only [List.length_append]; omega),
     room_far (show (b' ++ encTs x.1 ++ encTs x.2.1 ++ encT x.2.2.1 ++ encN (x.2.2.2.1.length : Int) ++ encR encI x.2.2.2.1 ++ encN x.2.2.2.2.1).length + (encN x.2.2.2.2.2.1).length < 1000000 by simp only [List.length_append]; omega),
     room_far (show (b' ++ encTs x.1 ++ encTs x.2.1 ++ encT x.2.2.1 ++ encN (x.2.2.2.1.length : Int) ++ encR encI x.2.2.2.1 ++ encN x.2.2.2.2.1 ++ encN x.2.2.2.2.2.1).length + (encNs x.2.2.2.2.2.2.1).length < 1000000 by simp only [List.length_append]; omega),
     wsucc hlt (show m.2.2.2.1.length ≤ lenMax by simp only [lenMax]; omega)]
    simp only [encM, List.append_assoc]
    rfl
  ·rw [r5encodeL2]
   simp only [dnlt, cond_false, r5nums_eq (inums_more hent (by omega : (12 : Int) ≤ 64) (by omega : (11 : Int) ≤ 4096)), Option.bind_some, rbytesB (n := m.2.2.2.2.2.1) (by omega), rbytesB (n := m.2.2.2.2.2.2.1) (by omega)]
   rw [room_far (by simp only [List.length_append, mark, List.length_cons, List.length_nil]; omega), room_far (by simp only [List.length_append, mark, List.length_cons, List.length_nil]; omega), room_far (by simp only [List.length_append, mark, List.length_cons, List.length_nil]; omega)]
   simp only [cond_true, List.append_assoc]
   rfl
 have k3 : loopF (r5encodeL3 m 100) 100 (mark ++ encN (m.1.length : Int) ++ encR encC m.1 ++ encTs m.2.1 ++ encN (m.2.2.1.length : Int), ((0 : Int), ())) = some (encIm m, ()) := by
  refine loop_put (xs := m.2.2.1) (e := encZ) (B := 11) (st := fun k b => (b, (k : Int), ())) (mark ++ encN (m.1.length : Int) ++ encR encC m.1 ++ encTs m.2.1 ++ encN (m.2.2.1.length : Int)) (fun x _ => encZ_len x) (fun k n b' rec hk hlt hbl => ?_) (fun rec => ?_) _ (by omega)
  ·rw [r5encodeL3]
   have hn := hint n (List.mem_of_getElem? hk)
   have ln := encZ_len n
   simp only [List.length_append, mark, List.length_cons, List.length_nil] at hbl
   simp only [dlt hlt, dge, Bool.and_self, cond_true, Int.toNat_natCast, getD_some hk, wsucc hlt (show m.2.2.1.length ≤ lenMax by simp only [lenMax]; omega), rsignB hn.1 hn.2, Option.bind_some, room_far (show b'.length + (encZ n).length < 1000000 by omega)]
  ·rw [r5encodeL3]
   simp only [dnlt, cond_false, rbytesB (n := (m.2.2.2.1.length : Int)) (by omega), Option.bind_some]
   rw [room_far (by simp only [List.length_append, mark, List.length_cons, List.length_nil]; omega)]
   exact k2
 have k4 : loopF (r5encodeL4 m 100) 100 (mark ++ encN (m.1.length : Int), ((0 : Int), ())) = some (encIm m, ()) := by
  refine loop_put (xs := m.1) (e := encC) (B := 300) (st := fun k b => (b, (k : Int), ())) (mark ++ encN (m.1.length : Int)) (fun c hc => encC_len (hf.cls c hc)) (fun k c b' rec hk hlt hbl => ?_) (fun rec => ?_) _ (by omega)
  ·rw [r5encodeL4]
   have hc := hf.cls c (List.mem_of_getElem? hk)
   obtain ⟨⟨c1, c2⟩, ⟨c3, c4⟩, ⟨c5, c6⟩⟩ := cls_of hc
   simp only [iclass, Bool.and_eq_true] at hc
   have e0 := encN_len (c.1 + 1)
   have e1 := encTs_len c.2.1
   have e2 := encNs_len c.2.2.1
   simp only [List.length_append, mark, List.length_cons, List.length_nil] at hbl
   simp only [dlt hlt, dge, Bool.and_self, cond_true, Int.toNat_natCast, getD_some hk, wsucc hlt (show m.1.length ≤ lenMax by simp only [lenMax]; omega), w64' (n := c.1 + 1) (by omega) (by omega), rbytesB (n := c.1 + 1) (by omega), r5several_eq hc.2.2.1,
    r5nums_eq (inums_more hc.2.2.2 (by omega : (4 : Int) ≤ 64) (by omega : (11 : Int) ≤ 4096)), Option.bind_some, room_far (show b'.length + (encN (c.1 + 1)).length < 1000000 by omega),
    room_far (show (b' ++ encN (c.1 + 1)).length + (encTs c.2.1).length < 1000000 by simp only [List.length_append]; omega), room_far (show (b' ++ encN (c.1 + 1) ++ encTs c.2.1).length + (encNs c.2.2.1).length < 1000000 by simp only [List.length_append]; omega)]
   simp only [encC, List.append_assoc]
  ·rw [r5encodeL4]
   simp only [dnlt, cond_false, r5several_eq hst, rbytesB (n := (m.2.2.1.length : Int)) (by omega), Option.bind_some]
   rw [room_far (by simp only [List.length_append, mark, List.length_cons, List.length_nil]; omega), room_far (by simp only [List.length_append, mark, List.length_cons, List.length_nil]; omega)]
   exact k3
 unfold r5encodeN
 rw [rbytesB (by omega)]
 simp only [Option.bind_some]
 rw [room_far (by simp only [List.length_cons, List.length_nil]; omega)]
 exact k4
end Go.Pli

namespace Go.Pli
open Go Go.PM
theorem bind_congr {α β : Type} {o : Option α} {f g : α → Option β} (h : ∀ a, o = some a → f a = g a) : o.bind f = o.bind g := by
 cases o with
 | none => rfl
 | some a => exact h a rfl
theorem next_nonneg {r : Rd} {s} (h : next r = some s) : 0 ≤ s.1 := by
 unfold next at h
 cases hb : bytesB (r.1.take 5) <;> simp only [hb, cond_true, cond_false] at h
 ·cases h
 ·split at h
  ·injection h with h; subst h; exact Int.natCast_nonneg _
  ·injection h with h; subst h; exact Int.le_refl _
theorem getN_le {r : Rd} {n : Int} {s} (hn : n < 9223372036854775808) (h : getN r n = some s) : 0 ≤ s.1 ∧ s.1 ≤ max n 0 := by
 unfold getN at h
 cases hr : r.2.1 <;> simp only [hr, cond_true, cond_false] at h
 ·cases hx : next r with
  | none => rw [hx] at h; cases h
  | some q =>
   rw [hx] at h
   simp only [Option.bind_some] at h
   have h0 := next_nonneg hx
   cases hq : q.2.1 <;> simp only [hq, Bool.not_true, Bool.not_false, cond_true, cond_false] at h
   ·injection h with h; subst h; exact ⟨Int.le_refl _, by omega⟩
   ·by_cases hneg : n < 0
    ·simp only [hneg, decide_true, cond_true] at h
     injection h with h; subst h; exact ⟨Int.le_refl _, by omega⟩
    ·simp only [hneg, decide_false, cond_false] at h
     have hw : IntKind.u64.wrap n = n := by rw [IntKind.wrap_u64]; omega
     rw [hw] at h
     by_cases hgt : q.1 > n
     ·simp only [hgt, decide_true, cond_true] at h
      injection h with h; subst h; exact ⟨Int.le_refl _, by omega⟩
     ·simp only [hgt, decide_false, cond_false] at h
      injection h with h; subst h
      have hw2 : IntKind.i64.wrap q.1 = q.1 := w64' (by omega) (by omega)
      simp only [hw2]
      omega
 ·injection h with h; subst h; exact ⟨Int.le_refl _, by omega⟩
theorem loop_get {α σ R : Type} {L : σ → (σ → Option R) → Option R} {f : Rd → Option (α × Rd × Unit)} {n : Nat} {st : Nat → List α → Rd → σ} {fin : List α → Rd → Option R}
  (h1 : ∀ (k : Nat) (out : List α) (r : Rd) (rec), k < n → out.length = k → L (st k out r) rec = (f r).bind fun q => rec (st (k + 1) (out ++ [q.1]) q.2.1))
  (h2 : ∀ (out : List α) (r : Rd) (rec), L (st n out r) rec = fin out r) : ∀ (F : Nat) (r : Rd), n < F → loopF L F (st 0 [] r) = (repO f n r).bind fun p => fin p.1 p.2.1 := by
 have key : ∀ (d k F : Nat) (out : List α) (r : Rd), k + d = n → out.length = k → d < F → loopF L F (st k out r) = (repO f d r).bind fun p => fin (out ++ p.1) p.2.1 := by
  intro d
  induction d with
  | zero =>
   intro k F out r hk ho hF
   obtain ⟨F, rfl⟩ : ∃ n, F = n + 1 := ⟨F - 1, by omega⟩
   have : k = n := by omega
   subst this
   rw [loopF_step, h2]
   simp [repO]
  | succ d ih =>
   intro k F out r hk ho hF
   obtain ⟨F, rfl⟩ : ∃ n, F = n + 1 := ⟨F - 1, by omega⟩
   rw [loopF_step, h1 k out r _ (by omega) ho, repO, Option.bind_assoc]
   refine bind_congr fun q _ => ?_
   rw [ih (k + 1) F (out ++ [q.1]) q.2.1 (by omega) (by simp [ho]) (by omega), Option.bind_assoc]
   refine bind_congr fun p _ => ?_
   simp
 intro F r hF
 have := key n 0 F [] r (by omega) rfl hF
 simpa using this
theorem getType_ok (r : Rd) (s) (h : getType r = some s) : getTypeN r = some s := by
 rw [← h]; rfl
theorem klt {k : Nat} {a : Int} (h : k < a.toNat) : decide ((k : Int) < a) = true := decide_eq_true (by omega)
theorem knlt {a : Int} (h : 0 ≤ a) : decide (((a.toNat : Nat) : Int) < a) = false := decide_eq_false (by omega)
theorem room1 {α : Type} {out : List α} {x : α} (h : out.length < 100000) : decide (out.length + [x].length < rowMax) = true := decide_eq_true (by simp [rowMax]; omega)
theorem getTypes_eq (r : Rd) {m : Int} (hm : m ≤ 1000) : getTypesN 1001 r m = getTypes r m := by
 unfold getTypesN getTypes getRow
 rw [decide_eq_true hm]
 simp only [cond_true]
 refine bind_congr fun a ha => ?_
 obtain ⟨a0, a1⟩ := getN_le (by omega) ha
 have := loop_get (L := getTypesL1 a) (f := getType) (n := a.1.toNat) (st := fun k out r => (out, (k : Int), r, ())) (fin := fun out r => some (out, r, ())) (fun k out r rec hk ho => ?_) (fun out r rec => ?_) 1001 a.2.1 (by omega)
 ·refine Eq.trans this ?_
  cases repO getType a.1.toNat a.2.1 <;> rfl
 ·rw [getTypesL1]
  simp only [klt hk, cond_true]
  refine bind_congr fun q _ => ?_
  rw [room1 (by omega), wsucc (n := a.1.toNat) hk (by simp only [lenMax]; omega)]
  rfl
 ·rw [getTypesL1]
  simp only [knlt a0, cond_false, idL]
theorem getTypes_ok (r : Rd) (m : Int) (s) (h : getTypes r m = some s) : ∃ k, getTypesN k r m = some s := by
 have hm : m ≤ 1000 := by
  unfold getTypes at h
  by_cases hm : m ≤ 1000
  ·exact hm
  ·rw [decide_eq_false hm] at h; cases h
 exact ⟨1001, by rw [getTypes_eq r hm]; exact h⟩
theorem getNums_eq (r : Rd) {c m : Int} (hc : c ≤ 1000) : getNumsN 1001 r c m = getNums r c m := by
 unfold getNumsN getNums getRow
 rw [decide_eq_true hc]
 simp only [cond_true]
 refine bind_congr fun a ha => ?_
 obtain ⟨a0, a1⟩ := getN_le (by omega) ha
 have := loop_get (L := getNumsL1 m a) (f := fun r => getN r m) (n := a.1.toNat) (st := fun k out r => (out, (k : Int), r, ())) (fin := fun out r => some (out, r, ())) (fun k out r rec hk ho => ?_) (fun out r rec => ?_) 1001 a.2.1 (by omega)
 ·refine Eq.trans this ?_
  cases repO (fun r => getN r m) a.1.toNat a.2.1 <;> rfl
 ·rw [getNumsL1]
  simp only [klt hk, cond_true]
  refine bind_congr fun q _ => ?_
  rw [room1 (by omega), wsucc (n := a.1.toNat) hk (by simp only [lenMax]; omega)]
  rfl
 ·rw [getNumsL1]
  simp only [knlt a0, cond_false, idL]
theorem getNums_ok (r : Rd) (c m : Int) (s) (h : getNums r c m = some s) : ∃ k, getNumsN k r c m = some s := by
 have hm : c ≤ 1000 := by
  unfold getNums at h
  by_cases hm : c ≤ 1000
  ·exact hm
  ·rw [decide_eq_false hm] at h; cases h
 exact ⟨1001, by rw [getNums_eq r hm]; exact h⟩
theorem getMethod_eq (r : Rd) : getMethodN 100 r = getMethod r := by
 unfold getMethodN getMethod getRow
 refine bind_congr fun a _ => bind_congr fun b _ => bind_congr fun c _ => ?_
 rw [Option.bind_assoc]
 refine bind_congr fun d hd => ?_
 obtain ⟨d0, d1⟩ := getN_le (by omega) hd
 have := loop_get (L := getMethodL1 d) (f := igetN) (n := d.1.toNat) (st := fun k out r => ((k : Int), r, (a.1, b.1, c.1.1, c.1.2.1, out, 0, 0, [], ()), ()))
  (fin := fun out r => (getN r 8).bind fun e => (getN e.2.1 4096).bind fun f => (getNums f.2.1 64 4096).bind fun g => some ((a.1, b.1, c.1, out, e.1, f.1, g.1, ()), g.2.1, ())) (fun k out r rec hk ho => ?_) (fun out r rec => ?_) 100 d.2.1 (by omega)
 ·exact this
 ·rw [getMethodL1]
  simp only [klt hk, cond_true]
  refine bind_congr fun q _ => ?_
  rw [room1 (by omega), wsucc (n := d.1.toNat) hk (by simp only [lenMax]; omega)]
  rfl
 ·rw [getMethodL1]
  simp only [knlt d0, cond_false]
  rfl
theorem getMethod_ok (r : Rd) (s) (h : getMethod r = some s) : ∃ k, getMethodN k r = some s := ⟨100, by rw [getMethod_eq]; exact h⟩
def tail1 (a : List Cl) (b : List Tp) (c : List Int) (d : List Mt) (r : Rd) : Option (Im × Int × Unit) :=
 (getNums r 12 11).bind fun e => (getN e.2.1 4096).bind fun f => (getN f.2.1 4096).bind fun g => (finN g.2.1).bind fun x =>
  bif !x.1 || !ifits (a, b, c, d, e.1, f.1, g.1, ()) then some (zIm, 2, ()) else some ((a, b, c, d, e.1, f.1, g.1, ()), 0, ())
def tail2 (a : List Cl) (b : List Tp) (c : List Int) (r : Rd) : Option (Im × Int × Unit) :=
 (getN r 12).bind fun n => (repO getMethod n.1.toNat n.2.1).bind fun d => tail1 a b c d.1 d.2.1
def tail3 (a : List Cl) (r : Rd) : Option (Im × Int × Unit) :=
 (getTypes r 8).bind fun b => (getN b.2.1 16).bind fun n => (repO glongN n.1.toNat n.2.1).bind fun c => tail2 a b.1 c.1 c.2.1
theorem idecode_eq (b : List Int) : idecodeN 100 b = idecode b := by
 have hspec : idecode b = bif decide ((b.length : Int) > 8192) || (decide ((b.length : Int) < 4) || !((strOfNums (b.take 4)).toList == (⟨#[112, 108, 105, 109]⟩ : ByteArray).toList)) then some (zIm, 2, ())
   else (getN (newN (b.drop 4)) 8).bind fun n => (repO getClass n.1.toNat n.2.1).bind fun a => tail3 a.1 a.2.1 := by
  unfold idecode getImg getRow tail3 tail2 tail1
  simp only [Option.bind_assoc, Option.bind_some]
 rw [hspec]
 unfold idecodeN
 by_cases h1 : (b.length : Int) > 8192
 ·simp [h1]
 by_cases h2 : (b.length : Int) < 4
 ·simp [h1, h2]
 have h3 : (4 : Int) ≤ (b.length : Int) := by omega
 simp only [h1, h2, h3, decide_true, decide_false, cond_true, cond_false, List.drop_zero, Bool.false_or, Int.le_refl, Bool.and_self, List.take_length]
 cases hm : (strOfNums (b.take 4)).toList == (⟨#[112, 108, 105, 109]⟩ : ByteArray).toList
 ·rfl
 simp only [Bool.not_true, cond_false]
 refine bind_congr fun n hn => ?_
 obtain ⟨n0, n1⟩ := getN_le (by omega) hn
 have k1 : ∀ (a : List Cl) (b : List Tp) (c : List Int) (n : Int × Rd × Unit), 0 ≤ n.1 → n.1 ≤ 12 → loopF (idecodeL1 n) 100 ((0 : Int), n.2.1, (a, b, c, [], [], 0, 0, ()), ()) = (repO getMethod n.1.toNat n.2.1).bind fun d => tail1 a b c d.1 d.2.1 := by
  intro a b c n n0 n1
  refine loop_get (L := idecodeL1 n) (f := getMethod) (n := n.1.toNat) (st := fun k out r => ((k : Int), r, (a, b, c, out, [], 0, 0, ()), ())) (fin := fun d r => tail1 a b c d r) (fun k out r rec hk ho => ?_) (fun out r rec => ?_) 100 n.2.1 (by omega)
  ·rw [idecodeL1]
   simp only [klt hk, cond_true]
   refine bind_congr fun q _ => ?_
   rw [room1 (by omega), wsucc (n := n.1.toNat) hk (by simp only [lenMax]; omega)]
   rfl
  ·rw [idecodeL1]
   simp only [knlt n0, cond_false]
   unfold tail1
   refine bind_congr fun e _ => bind_congr fun f _ => bind_congr fun g _ => bind_congr fun x _ => ?_
   cases x.1
   ·rfl
   ·simp only [Bool.not_true, cond_false, Bool.false_or]
    cases hi : ifits (a, b, c, out, e.1, f.1, g.1, ())
    ·rfl
    ·simp only [Bool.not_true, cond_false]
     unfold icopy
     rw [hi]
     rfl
 have k2 : ∀ (a : List Cl) (b : List Tp) (n : Int × Rd × Unit), 0 ≤ n.1 → n.1 ≤ 16 → loopF (idecodeL2 100 n) 100 ((0 : Int), n.2.1, (a, b, [], [], [], 0, 0, ()), ()) = (repO glongN n.1.toNat n.2.1).bind fun c => tail2 a b c.1 c.2.1 := by
  intro a b n n0 n1
  refine loop_get (L := idecodeL2 100 n) (f := glongN) (n := n.1.toNat) (st := fun k out r => ((k : Int), r, (a, b, out, [], [], 0, 0, ()), ())) (fin := fun c r => tail2 a b c r) (fun k out r rec hk ho => ?_) (fun out r rec => ?_) 100 n.2.1 (by omega)
  ·rw [idecodeL2]
   simp only [klt hk, cond_true]
   refine bind_congr fun q _ => ?_
   rw [room1 (by omega), wsucc (n := n.1.toNat) hk (by simp only [lenMax]; omega)]
   rfl
  ·rw [idecodeL2]
   simp only [knlt n0, cond_false]
   unfold tail2
   refine bind_congr fun e he => ?_
   obtain ⟨e0, e1⟩ := getN_le (by omega) he
   exact k1 a b out e e0 (by omega)
 have k3 := loop_get (L := idecodeL3 100 n) (f := getClass) (n := n.1.toNat) (st := fun k out r => ((k : Int), r, (out, [], [], [], [], 0, 0, ()), ())) (fin := fun a r => tail3 a r) (fun k out r rec hk ho => ?_) (fun out r rec => ?_) 100 n.2.1 (by omega)
 ·exact k3
 ·rw [idecodeL3]
  simp only [klt hk, cond_true]
  unfold getClass
  simp only [Option.bind_assoc, Option.bind_some]
  refine bind_congr fun a _ => bind_congr fun b _ => bind_congr fun c _ => ?_
  rw [room1 (by omega), wsucc (n := n.1.toNat) hk (by simp only [lenMax]; omega)]
  rfl
 ·rw [idecodeL3]
  simp only [knlt n0, cond_false]
  unfold tail3
  refine bind_congr fun b _ => bind_congr fun e he => ?_
  obtain ⟨e0, e1⟩ := getN_le (by omega) he
  exact k2 out b.1 e e0 (by omega)
theorem idecode_ok (b : List Int) (r) (h : idecode b = some r) : ∃ k, idecodeN k b = some r := ⟨100, by rw [idecode_eq]; exact h⟩
end Go.Pli

