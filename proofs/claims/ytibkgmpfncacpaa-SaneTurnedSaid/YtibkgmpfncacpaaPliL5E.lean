/- Sane, by the reference: what the functions come to. -/
import Derived.Test.YtibkgmpfncacpaaPliL5A
namespace Go.Pli
open Go Go.PM
theorem chain_mem {l : List Cl} {x : Int} : ∀ (n : Nat) (c : Int), c.toNat < n → x ∈ chain l c → 0 ≤ x ∧ x ≤ c
 | 0, _, h, _ => by omega
 | n + 1, c, h, hx => by
  by_cases hc : c < 0
  ·rw [chain_neg hc] at hx; simp at hx
  ·rw [chain_step (by omega)] at hx
   have hlt := kup_lt (l := l) (c := c) (by omega)
   rcases List.mem_cons.1 hx with rfl | hx
   ·omega
   ·by_cases hk : kup l c < 0
    ·rw [chain_neg hk] at hx; simp at hx
    ·have := chain_mem n (kup l c) (by omega) hx
     omega
theorem rsub_ksub (l : List Cl) (c : Int) (b : Tp) : rsubB l (3, c, ()) b = ksub l (3, c, ()) b := by
 unfold rsubB ksub
 have h4 : ((3 : Int) == 4) = false := rfl
 have h3 : ((3 : Int) == 3) = true := rfl
 simp only [h4, h3, cond_true, cond_false, Bool.true_and]
 cases hb : b.1 == 3
 ·have hne : ((((3 : Int), c, ()) : Tp) == b) = false := by
   rw [← tp_beq]
   have : ((3 : Int) == b.1) = false := by
    simp only [beq_eq_false_iff_ne, ne_eq] at hb ⊢
    exact fun h => hb h.symm
   simp [this]
  simp [hne]
 ·simp only [cond_true, Bool.true_and]
  unfold raboveB kbelow
  by_cases hc : c < (l.length : Int)
  ·simp only [hc, decide_true, cond_true, Bool.true_and]
   cases hm : (chain l c).contains b.2.1
   ·simp
   ·have hm' : b.2.1 ∈ chain l c := by simpa using hm
    have := chain_mem (c.toNat + 1) c (by omega) hm'
    have a1 : 0 ≤ b.2.1 := this.1
    have a2 : b.2.1 < (l.length : Int) := by omega
    simp [a1, a2]
  ·simp [hc]
theorem raboveB_mem {l : List Cl} {c x : Int} (h : x ∈ raboveB l c) : 0 ≤ x ∧ x < (l.length : Int) := by
 unfold raboveB at h
 by_cases hc : c < (l.length : Int)
 ·simp only [hc, decide_true, cond_true] at h
  have := chain_mem (c.toNat + 1) c (by omega) h
  omega
 ·simp [hc] at h
theorem raboveB_len {l : List Cl} {c : Int} : (raboveB l c).length ≤ l.length + 1 := by
 unfold raboveB
 by_cases hc : c < (l.length : Int)
 ·simp only [hc, decide_true, cond_true]
  have := chain_len l (c.toNat + 1) c (by omega)
  omega
 ·simp [hc]
theorem fields_loop (m : Im) (hf : Fit m) (rs : List Int) (hr : ∀ x ∈ rs, 0 ≤ x ∧ x < (m.1.length : Int)) : ∀ (k F : Nat) (out : List Tp), k ≤ rs.length → k < 100 → k < F → out.length + 8 * k < 10000 →
  loopF (r5fieldsL1 m (rs, ())) F (out, (k : Int) - 1, ()) = some (out ++ (((rs.take k).reverse).map fun s => (clOf m s).2.1).flatten, ())
 | 0, F, out, _, _, hF, _ => by
  obtain ⟨F, rfl⟩ : ∃ n, F = n + 1 := ⟨F - 1, by omega⟩
  rw [loopF_step, r5fieldsL1]
  simp
 | k + 1, F, out, hk, hk100, hF, ho => by
  obtain ⟨F, rfl⟩ : ∃ n, F = n + 1 := ⟨F - 1, by omega⟩
  have hlt : k < rs.length := by omega
  have hg := List.getElem?_eq_getElem hlt
  have hmem : rs[k] ∈ rs := List.getElem_mem hlt
  obtain ⟨x0, x1⟩ := hr _ hmem
  have hcls := (cls_of (hf.cls _ (clOf_mem x0 x1))).2.1.1
  have hd : m.1.getD (rs[k]).toNat zCl = clOf m rs[k] := rfl
  have e : (((k + 1 : Nat) : Int) - 1) = (k : Int) := by omega
  rw [loopF_step, r5fieldsL1, e]
  have hroom : out.length + (clOf m rs[k]).2.1.length < rowMax := by simp only [rowMax]; omega
  have hge : decide ((k : Int) ≥ 0) = true := dge0 k
  simp only [hge, dlt hlt, Bool.and_self, cond_true, Int.toNat_natCast, getD_some hg, x0, x1, hd, hroom, decide_true]
  rw [w64' (by omega) (by omega), fields_loop m hf rs hr k F _ (by omega) (by omega) (by omega) (by simp only [List.length_append]; omega)]
  rw [List.take_succ_eq_append_getElem hlt]
  simp only [List.reverse_append, List.reverse_cons, List.reverse_nil, List.nil_append, List.cons_append, List.map_cons, List.flatten_cons, List.append_assoc]
theorem fieldsR_len (m : Im) : ∀ l : List Int, (((l.reverse).map fun s => (clOf m s).2.1).flatten).length = sumL (l.map fun s => (clOf m s).2.1.length)
 | [] => rfl
 | x :: l => by
  have ih := fieldsR_len m l
  simp only [List.reverse_cons, List.map_append, List.map_cons, List.map_nil, List.flatten_append, List.flatten_cons, List.flatten_nil, List.append_nil, List.length_append, sumL]
  omega
theorem r5fields_ok (m : Im) (c : Int) (r) (h : r5fields m c = some r) : ∃ k, r5fieldsN k m c = some r := by
 unfold r5fields at h
 cases hi : ifits m <;> simp only [hi, cond_true, cond_false] at h
 ·cases h
 injection h with h
 subst h
 have hf := fit_of hi
 have h8 := hf.classes
 have hok : okL m.1 = true := by unfold okL; simp; omega
 have hlen := raboveB_len (l := m.1) (c := c)
 refine ⟨100, ?_⟩
 unfold r5fieldsN rabove
 rw [hok]
 simp only [cond_true, Option.bind_some]
 rw [w64' (by omega) (by omega), fields_loop m hf _ (fun x hx => raboveB_mem hx) (raboveB m.1 c).length 100 [] (by omega) (by omega) (by omega) (by simp; omega), List.take_length]
 simp
theorem r5fields_len {m : Im} {c : Int} (hi : ifits m = true) (h1 : c < (m.1.length : Int)) : ∃ l : List Tp, r5fields m c = some (l, ()) ∧ l.length = fieldsC m c := by
 unfold r5fields
 rw [hi]
 refine ⟨_, rfl, ?_⟩
 rw [fieldsR_len]
 unfold fieldsC raboveB
 simp [h1]
theorem r5class_ok (m : Im) (c : Int) (r) (h : r5class m c = some r) : ∃ k, r5classN k m c = some r := by
 unfold r5class at h
 cases hp : preC m c <;> simp only [hp, cond_true, cond_false] at h
 ·cases h
 injection h with h
 subst h
 obtain ⟨hf, h0, h1, hh⟩ := preC_of hp
 have hi : ifits m = true := by simp only [preC, Bool.and_eq_true] at hp; exact hp.1
 refine ⟨100, ?_⟩
 obtain ⟨⟨c1, c2⟩, ⟨c3, c4⟩, ⟨c5, c6⟩⟩ := cls_of (hf.cls _ (clOf_mem h0 h1))
 unfold r5classN classB
 have hd : m.1.getD c.toNat zCl = clOf m c := rfl
 have hd2 : (clOf m c).1 = supC m.1 c := rfl
 rw [hd, hd2]
 simp only [h0, h1, decide_true, Bool.and_self, cond_true, r5good]
 have h8 := hf.classes
 have hok : okL m.1 = true := by unfold okL; simp; omega
 by_cases hs : supC m.1 c < c
 ·have hns : ¬ supC m.1 c ≥ c := by omega
  simp only [hs, hns, decide_true, decide_false, cond_false, Bool.true_and]
  cases hg : goods m (clOf m c).2.1
  ·rfl
  ·obtain ⟨fl, hfl, hfn⟩ := r5fields_len hi h1
   rw [hfl]
   simp only [Bool.not_true, cond_false, Option.bind_some, Bool.true_and, hfn]
   by_cases h8 : fieldsC m c ≤ 8
   ·have h8' : ¬ (fieldsC m c : Int) > 8 := by omega
    simp only [h8, h8', decide_true, decide_false, cond_false, Bool.true_and]
    have hup : (bif decide (supC m.1 c ≥ 0) then bif decide (0 ≤ supC m.1 c) && decide (supC m.1 c < (m.1.length : Int)) then (some (.inl ((m.1.getD (supC m.1 c).toNat zCl).2.2.1, ())) : Option ((List Int × Unit) ⊕ (Bool × Unit))) else none else some (.inl (([] : List Int), ()))) = some (.inl (upSlots m c, ())) := by
     unfold upSlots
     by_cases hk : 0 ≤ supC m.1 c
     ·have a : supC m.1 c ≥ 0 := hk
      have b : supC m.1 c < (m.1.length : Int) := by omega
      simp only [a, b, decide_true, Bool.and_self, cond_true]
      rfl
     ·have a : ¬ supC m.1 c ≥ 0 := hk
      simp only [a, decide_false, cond_false]
    rw [hup]
    simp only [Option.bind_some]
    by_cases hu : (upSlots m c).length ≤ (clOf m c).2.2.1.length
    ·have hu' : ¬ ((clOf m c).2.2.1.length : Int) < ((upSlots m c).length : Int) := by omega
     simp only [hu, hu', decide_true, decide_false, cond_false, Bool.true_and]
     have key : loopF (r5classL1 m c (upSlots m c, ())) 100 ((0 : Int), ()) = bif allN (slotB m c) 0 (clOf m c).2.2.1 then some (true, ()) else some (false, ()) := by
      refine loop_allN (st := fun k => ((k : Int), ())) (p := slotB m c) (fun k f rec hk hlt => ?_) (fun rec => ?_) _ (by omega)
      ·rw [r5classL1]
       obtain ⟨f0, f11⟩ := slotAt hf h0 h1 hk
       simp only [hd, dlt hlt, dge, Bool.and_self, cond_true, Int.toNat_natCast, getD_some hk, wsucc hlt (show (clOf m c).2.2.1.length ≤ lenMax by simp only [lenMax]; omega)]
       unfold slotB sin
       by_cases hfl : f < (m.2.2.2.1.length : Int)
       ·have hfl' : ¬ f ≥ (m.2.2.2.1.length : Int) := by omega
        have e1 : m.2.2.2.1.getD f.toNat zMt = mtOf m f := rfl
        simp only [f0, hfl, hfl', decide_true, decide_false, cond_true, cond_false, Bool.and_self, Bool.true_and, e1]
        unfold fitsB
        by_cases hpl : 0 < (mtOf m f).1.length
        ·have p1 : ((mtOf m f).1.length : Int) ≠ 0 := by omega
         have p2 : (((mtOf m f).1.length : Int) == 0) = false := by simpa using p1
         have p3 : (0 : Int) < ((mtOf m f).1.length : Int) := by omega
         have hrs : rsub m.1 ((3 : Int), c, ()) ((mtOf m f).1.getD 0 zTp) = some (ksub m.1 ((3 : Int), c, ()) ((mtOf m f).1.getD 0 zTp), ()) := by
          unfold rsub; rw [hok, rsub_ksub]; rfl
         simp only [p2, p3, hpl, decide_true, cond_true, cond_false, Bool.true_and, hrs, Option.bind_some]
         cases hks : ksub m.1 ((3 : Int), c, ()) ((mtOf m f).1.getD 0 zTp)
         ·rfl
         ·simp only [Bool.not_true, cond_false, Bool.true_and]
          by_cases hku : k < (upSlots m c).length
          ·obtain ⟨⟨u1, u2⟩, u3⟩ := upSlot_ok hh hs hku
           have e2 : m.2.2.2.1.getD ((upSlots m c).getD k 0).toNat zMt = mtOf m ((upSlots m c).getD k 0) := rfl
           have q1 : (1 : Int) ≤ ((mtOf m f).1.length : Int) := by omega
           have q2 : (1 : Int) ≤ ((mtOf m ((upSlots m c).getD k 0)).1.length : Int) := by omega
           have q3 : ∀ n : Int, decide (n ≤ n) = true := fun n => decide_eq_true (Int.le_refl n)
           simp only [dlt hku, hku, cond_true, u1, u2, e2, decide_true, Bool.and_self, Bool.not_true, Bool.false_or, q1, q2, q3, drop_take_len, tp_beq]
           unfold rtypes alike
           simp only [hpl, u3, decide_true, Bool.true_and]
           cases List.drop 1 (mtOf m f).1 == List.drop 1 (mtOf m ((upSlots m c).getD k 0)).1 <;> cases (mtOf m f).2.2.1 == (mtOf m ((upSlots m c).getD k 0)).2.2.1 <;> rfl
          ·have : ¬ (k : Int) < ((upSlots m c).length : Int) := by omega
           simp [this, hku]
        ·have p1 : (mtOf m f).1.length = 0 := by omega
         simp [p1]
       ·have hfl' : f ≥ (m.2.2.2.1.length : Int) := by omega
        simp [hfl, hfl']
      ·rw [r5classL1]
       simp only [hd, dnlt, cond_false]
     rw [key]
     cases allN (slotB m c) 0 (clOf m c).2.2.1 <;> rfl
    ·have hu' : ((clOf m c).2.2.1.length : Int) < ((upSlots m c).length : Int) := by omega
     simp [hu, hu']
   ·have h8' : (fieldsC m c : Int) > 8 := by omega
    simp [h8, h8']
 ·have hns : supC m.1 c ≥ c := by omega
  simp [hs, hns]
theorem r5named_ok (m : Im) (x : Mt) (i : Ins) (r) (h : r5named m x i = some r) : r5namedN m x i = some r := by
 unfold r5named at h
 cases hp : preM m x && igood i <;> simp only [hp, cond_true, cond_false] at h
 ·cases h
 injection h with h
 subst h
 simp only [Bool.and_eq_true, preM] at hp
 obtain ⟨⟨hi, ha, hx⟩, hg⟩ := hp
 obtain ⟨⟨x1, _⟩, ⟨x2, _⟩, _, ⟨x4, _⟩, _⟩ := mth_of hx
 obtain ⟨_, ⟨a0, _⟩, ⟨b0, _⟩, _, _⟩ := good_range hg
 unfold r5namedN instrB
 have hw : IntKind.i64.wrap ((x.1.length : Int) + (x.2.1.length : Int)) = ((x.1.length + x.2.1.length : Nat) : Int) := by
  rw [w64' (by omega) (by omega)]; omega
 rw [hw]
 have sa : ∀ n : Int, sin i.2.1 n = decide (i.2.1 < n) := fun n => by unfold sin; rw [decide_eq_true a0]; rfl
 have sb : ∀ n : Int, sin i.2.2.1 n = decide (i.2.2.1 < n) := fun n => by unfold sin; rw [decide_eq_true b0]; rfl
 simp only [sa, sb]
 have h27 : (bif decide (i.2.1 < (m.1.length : Int)) then (r5fields m i.2.1).bind fun r9 => (some (decide (i.2.2.1 < (r9.1.length : Int)), ()) : Option (Bool × Unit)) else some (false, ())) =
   some (decide (i.2.1 < (m.1.length : Int)) && decide (i.2.2.1 < (fieldsC m i.2.1 : Int)), ()) := by
  by_cases h1 : i.2.1 < (m.1.length : Int)
  ·obtain ⟨fl, hfl, hfn⟩ := r5fields_len hi h1
   simp [h1, hfl, hfn]
  ·simp [h1]
 have h32 : (bif decide (i.2.1 < (m.1.length : Int)) then (bif decide (0 ≤ i.2.1) && decide (i.2.1 < m.1.length) then (some (decide (i.2.2.1 < ((m.1.getD i.2.1.toNat zCl).2.2.1.length : Int)), ()) : Option (Bool × Unit)) else none) else some (false, ())) =
   some (decide (i.2.1 < (m.1.length : Int)) && decide (i.2.2.1 < ((clOf m i.2.1).2.2.1.length : Int)), ()) := by
  by_cases h1 : i.2.1 < (m.1.length : Int)
  ·simp only [h1, a0, decide_true, Bool.and_self, cond_true, Bool.true_and]
   rfl
  ·simp [h1]
 simp only [h27, h32]
 cases i.1 == 1 <;> cases i.1 == 3 <;> cases i.1 == 4 <;> cases i.1 == 18 <;> cases i.1 == 19 <;> try rfl
 all_goals (cases i.1 == 22 <;> cases i.1 == 34 <;> cases i.1 == 27 <;> cases i.1 == 28 <;> cases i.1 == 29 <;> cases i.1 == 30 <;> cases i.1 == 31 <;> cases i.1 == 32 <;> rfl)
theorem r5method_ok (m : Im) (x : Mt) (r) (h : r5method m x = some r) : ∃ k, r5methodN k m x = some r := by
 unfold r5method at h
 cases hp : preM m x <;> simp only [hp, cond_true, cond_false] at h
 ·cases h
 injection h with h
 subst h
 have hp' := hp
 simp only [Bool.and_eq_true, preM] at hp
 obtain ⟨hi, ha, hx⟩ := hp
 obtain ⟨⟨x1, _⟩, ⟨x2, _⟩, _, ⟨x4, x5⟩, _⟩ := mth_of hx
 refine ⟨100, ?_⟩
 have key : loopF (r5methodL1 m x) 100 ((0 : Int), ()) = bif x.2.2.2.1.all (instrB m x) then some (true, ()) else some (false, ()) := by
  refine loop_all (st := fun k => ((k : Int), ())) (p := instrB m x) (fun k i rec hk hlt => ?_) (fun rec => ?_) _ (by omega)
  ·rw [r5methodL1]
   have hsi : r5named m x i = some (instrB m x i, ()) := by unfold r5named; rw [hp', x5 i (List.mem_of_getElem? hk)]; rfl
   simp only [dlt hlt, dge, Bool.and_self, cond_true, Int.toNat_natCast, getD_some hk, wsucc hlt (show x.2.2.2.1.length ≤ lenMax by simp only [lenMax]; omega), hsi, Option.bind_some]
   cases instrB m x i <;> rfl
  ·rw [r5methodL1]
   simp only [dnlt, cond_false]
 unfold r5methodN methodB
 rw [key, w64' (by omega) (by omega), len_bne]
 have hret : ((x.2.2.1.1 == 5) && ((x.2.2.1.2.1 == 0) && true)) = (x.2.2.1 == (5, 0, ())) := tp_beq x.2.2.1 (5, 0, ())
 rw [hret]
 have hz : ((x.2.2.2.1.length : Int) == 0) = decide (x.2.2.2.1.length = 0) := by
  by_cases hz : x.2.2.2.1.length = 0
  ·simp [hz]
  ·have : ¬ ((x.2.2.2.1.length : Int) = 0) := by omega
   simp [hz]
 have h8 : decide ((x.1.length : Int) + (x.2.1.length : Int) > 8) = !decide (x.1.length + x.2.1.length ≤ 8) := by
  by_cases h8 : x.1.length + x.2.1.length ≤ 8
  ·have : ¬ ((x.1.length : Int) + (x.2.1.length : Int) > 8) := by omega
   simp [h8, this]
  ·have : ((x.1.length : Int) + (x.2.1.length : Int) > 8) := by omega
   simp [h8, this]
 have hne : decide (x.2.2.2.1.length ≠ 0) = !decide (x.2.2.2.1.length = 0) := by by_cases h : x.2.2.2.1.length = 0 <;> simp [h]
 rw [hz, h8, hne]
 unfold r5good rgood
 cases goods m x.1 <;> cases goods m x.2.1 <;> cases x.2.2.1 == (5, 0, ()) <;> cases kgood x.2.2.1 (m.1.length : Int) <;> cases decide (x.2.2.2.1.length = 0) <;> try rfl
 all_goals (cases decide (x.2.2.2.2.2.2.1.length = x.2.2.2.1.length) <;> cases decide (x.1.length + x.2.1.length ≤ 8) <;> cases x.2.2.2.1.all (instrB m x) <;> rfl)
theorem range_getD {α : Type} (p : α → Bool) (d : α) : ∀ l : List α, (List.range l.length).all (fun k => p (l.getD k d)) = l.all p
 | [] => rfl
 | x :: l => by
  have ih := range_getD p d l
  rw [List.length_cons, List.range_succ_eq_map]
  simp only [List.all_cons, List.all_map, List.getD_cons_zero]
  rw [← ih]
  rfl
theorem r5sane_eq (m : Im) (_ : r5saneLen m) : ∃ k, r5saneN k m = some (r5sane m, ()) := by
 refine ⟨100, ?_⟩
 unfold r5saneN r5sane scheck r5fits
 cases hi : ifits m
 ·rfl
 have hf := fit_of hi
 simp only [Bool.not_true, cond_false, cond_true, r5good]
 have h8 := hf.classes
 have h12 := hf.methods
 have hent := hf.entries
 simp only [inums, iwithin, Bool.and_eq_true, decide_eq_true_eq, List.all_eq_true] at hent
 have k1 : loopF (r5saneL1 m) 100 (goods m m.2.1, ((0 : Int), ())) = some (.inl (goods m m.2.1 && allC m, ())) := by
  have h := loop_ok (L := r5saneL1 m) (N := m.1.length) (q := fun k => classB m (k : Int)) (fin := fun b => some (.inl (b, ()))) (fun k rec hlt hh => .inl ?_) (fun k rec _ => ?_) (fun rec => ?_) 100 (goods m m.2.1) (by omega)
  ·exact h
  ·rw [r5saneL1]
   have hpc : preC m (k : Int) = true := by
    simp only [preC, Bool.and_eq_true, decide_eq_true_eq]
    exact ⟨hi, by omega, by omega, range_all.2 fun j hj => hh j (by omega)⟩
   have hsc : r5class m (k : Int) = some (classB m (k : Int), ()) := by unfold r5class; rw [hpc]; rfl
   simp only [dlt hlt, cond_true, hsc, Option.bind_some, wsucc hlt (show m.1.length ≤ lenMax by simp only [lenMax]; omega)]
  ·rw [r5saneL1]
   cases decide ((k : Int) < (m.1.length : Int)) <;> rfl
  ·rw [r5saneL1]
   simp only [dnlt, cond_false]
 rw [k1]
 simp only [Option.bind_some]
 have k2 : loopF (r5saneL2 m) 100 (goods m m.2.1 && allC m, ((0 : Int), ())) = some (.inl (goods m m.2.1 && allC m && m.2.2.2.1.all (methodB m), ())) := by
  cases hac : allC m with
  | false =>
   simp only [Bool.and_false, Bool.false_and]
   rw [show (100 : Nat) = 99 + 1 from rfl, loopF_step, r5saneL2]
   cases decide ((0 : Int) < (m.2.2.2.1.length : Int)) <;> rfl
  | true =>
   rw [← range_getD (methodB m) zMt]
   have h := loop_ok (L := r5saneL2 m) (N := m.2.2.2.1.length) (q := fun k => methodB m (m.2.2.2.1.getD k zMt)) (fin := fun b => some (.inl (b, ()))) (fun k rec hlt hh => .inl ?_) (fun k rec _ => ?_) (fun rec => ?_) 100 (goods m m.2.1 && true) (by omega)
   ·exact h
   ·rw [r5saneL2]
    have hg := List.getElem?_eq_getElem hlt
    have hpm : preM m m.2.2.2.1[k] = true := by
     simp only [preM, Bool.and_eq_true]
     exact ⟨hi, hac, hf.mts _ (List.getElem_mem hlt)⟩
    have hsm : r5method m m.2.2.2.1[k] = some (methodB m m.2.2.2.1[k], ()) := by unfold r5method; rw [hpm]; rfl
    simp only [dlt hlt, dge, Bool.and_self, cond_true, Int.toNat_natCast, getD_some hg, hsm, Option.bind_some, wsucc hlt (show m.2.2.2.1.length ≤ lenMax by simp only [lenMax]; omega)]
   ·rw [r5saneL2]
    cases decide ((k : Int) < (m.2.2.2.1.length : Int)) <;> rfl
   ·rw [r5saneL2]
    simp only [dnlt, cond_false]
 rw [k2]
 simp only [Option.bind_some]
 have hsB : saneB m = (goods m m.2.1 && allC m && m.2.2.2.1.all (methodB m) && m.2.2.2.2.1.all (entryB m)) := by
  unfold saneB
  rw [Bool.and_assoc, Bool.and_assoc]
 rw [hsB]
 cases hb : goods m m.2.1 && allC m && m.2.2.2.1.all (methodB m) with
 | false =>
  rw [show (100 : Nat) = 99 + 1 from rfl, loopF_step, r5saneL4]
  cases decide ((0 : Int) < (m.2.2.2.2.1.length : Int)) <;> rfl
 | true =>
  rw [Bool.true_and, ← range_getD (entryB m) 0]
  have hmB : ∀ x ∈ m.2.2.2.1, methodB m x = true := by
   simp only [Bool.and_eq_true, List.all_eq_true] at hb
   exact hb.2
  have k4 := loop_ok (L := r5saneL4 m 100) (N := m.2.2.2.2.1.length) (q := fun k => entryB m (m.2.2.2.2.1.getD k 0)) (fin := fun b => bif b then some ((0 : Int), ()) else some ((3 : Int), ())) (fun k rec hlt hh => ?_) (fun k rec _ => ?_) (fun rec => ?_) 100 true (by omega)
  ·refine Eq.trans k4 ?_
   cases (List.range m.2.2.2.2.1.length).all fun k => entryB m (m.2.2.2.2.1.getD k 0) <;> rfl
  ·have hg := List.getElem?_eq_getElem hlt
   obtain ⟨f0, f11⟩ := hent.2 _ (List.getElem_mem hlt)
   rw [r5saneL4]
   simp only [dlt hlt, dge, Bool.and_self, cond_true, Int.toNat_natCast, getD_some hg]
   by_cases hfl : m.2.2.2.2.1[k] < (m.2.2.2.1.length : Int)
   ·refine .inl ?_
    have hfl' : ¬ m.2.2.2.2.1[k] ≥ (m.2.2.2.1.length : Int) := by omega
    have e1 : m.2.2.2.1.getD (m.2.2.2.2.1[k]).toNat zMt = mtOf m m.2.2.2.2.1[k] := rfl
    simp only [f0, hfl, hfl', decide_true, decide_false, cond_true, cond_false, Bool.and_self, e1]
    have hmm := mtOf_mem f0 hfl
    have hmb := hmB _ hmm
    have hm4 := (mth_of (hf.mts _ hmm)).1.1
    simp only [methodB, Bool.and_eq_true] at hmb
    obtain ⟨hgp, _, hgr, _⟩ := hmb
    have hkg : ∀ t : Tp, kgood t (m.1.length : Int) = true → sentry1 t = (t.1 == 1) := fun t ht => by
     unfold sentry1
     cases h1 : t.1 == 1
     ·rfl
     ·unfold kgood at ht
      rw [h1] at ht
      simpa using ht
    have hre : (sentry1 (mtOf m m.2.2.2.2.1[k]).2.2.1 || (mtOf m m.2.2.2.2.1[k]).2.2.1.1 == 5) = ((mtOf m m.2.2.2.2.1[k]).2.2.1.1 == 1 || (mtOf m m.2.2.2.2.1[k]).2.2.1.1 == 5) := by
     cases h5 : (mtOf m m.2.2.2.2.1[k]).2.2.1.1 == 5
     ·have : kgood (mtOf m m.2.2.2.2.1[k]).2.2.1 (m.1.length : Int) = true := by
       rcases Bool.or_eq_true _ _ ▸ hgr with h | h
       ·have : (mtOf m m.2.2.2.2.1[k]).2.2.1 = (5, 0, ()) := by simpa using h
        rw [this] at h5; simp at h5
       ·exact h
      rw [hkg _ this]
     ·simp
    have hall : (mtOf m m.2.2.2.2.1[k]).1.all sentry1 = (mtOf m m.2.2.2.2.1[k]).1.all fun t => t.1 == 1 := by
     have hgp' : ∀ t ∈ (mtOf m m.2.2.2.2.1[k]).1, kgood t (m.1.length : Int) = true := by simpa [goods] using hgp
     have key : ∀ l : List Tp, (∀ t ∈ l, kgood t (m.1.length : Int) = true) → l.all sentry1 = l.all fun t => t.1 == 1 := by
      intro l
      induction l with
      | nil => intro _; rfl
      | cons t l ih =>
       intro hl
       rw [List.all_cons, List.all_cons, hkg t (hl t (by simp)), ih fun t' h => hl t' (by simp [h])]
     exact key _ hgp'
    have hbool : (bif (mtOf m m.2.2.2.2.1[k]).2.2.1.1 == 1 then (some (.inl (true, ())) : Option ((Bool × Unit) ⊕ (Int × Unit))) else some (.inl ((mtOf m m.2.2.2.2.1[k]).2.2.1.1 == 5, ()))) = some (.inl ((mtOf m m.2.2.2.2.1[k]).2.2.1.1 == 1 || (mtOf m m.2.2.2.2.1[k]).2.2.1.1 == 5, ())) := by
     cases (mtOf m m.2.2.2.2.1[k]).2.2.1.1 == 1 <;> rfl
    rw [hbool, ← hre]
    simp only [Option.bind_some]
    have hin := loop_ok (L := r5saneL3 m (true, (k : Int), ()) rec) (N := (mtOf m m.2.2.2.2.1[k]).1.length) (q := fun j => ((mtOf m m.2.2.2.2.1[k]).1.getD j zTp).1 == 1) (fin := fun b => rec (b, ((k + 1 : Nat) : Int), ())) (fun j rec2 hj hh => .inl ?_) (fun j rec2 _ => ?_) (fun rec2 => ?_) 100 (sentry1 (mtOf m m.2.2.2.2.1[k]).2.2.1 || (mtOf m m.2.2.2.2.1[k]).2.2.1.1 == 5) (by omega)
    ·refine Eq.trans hin ?_
     have hr := range_getD (fun t : Tp => t.1 == 1) zTp (mtOf m m.2.2.2.2.1[k]).1
     have : (List.range (mtOf m m.2.2.2.2.1[k]).1.length).all (fun j => ((mtOf m m.2.2.2.2.1[k]).1.getD j zTp).1 == 1) = (mtOf m m.2.2.2.2.1[k]).1.all fun t => t.1 == 1 := hr
     rw [this, ← hall]
     unfold entryB sin
     simp only [f0, hfl, decide_true, Bool.true_and]
    ·rw [r5saneL3]
     simp only [Int.toNat_natCast, getD_some hg, f0, hfl, decide_true, Bool.and_self, cond_true, e1, dlt hj, dge, wsucc hj (show (mtOf m m.2.2.2.2.1[k]).1.length ≤ lenMax by simp only [lenMax]; omega)]
    ·rw [r5saneL3]
     simp only [Int.toNat_natCast, getD_some hg, f0, hfl, decide_true, Bool.and_self, cond_true, cond_false, e1, wsucc hlt (show m.2.2.2.2.1.length ≤ lenMax by simp only [lenMax]; omega)]
     cases decide ((j : Int) < ((mtOf m m.2.2.2.2.1[k]).1.length : Int)) <;> rfl
    ·rw [r5saneL3]
     simp only [Int.toNat_natCast, getD_some hg, f0, hfl, decide_true, Bool.and_self, cond_true, cond_false, e1, dnlt, wsucc hlt (show m.2.2.2.2.1.length ≤ lenMax by simp only [lenMax]; omega)]
   ·refine .inr ⟨?_, ?_⟩
    ·unfold entryB sin
     simp [hfl]
    ·have hfl' : m.2.2.2.2.1[k] ≥ (m.2.2.2.1.length : Int) := by omega
     simp only [hfl', decide_true, cond_true, cond_false]
  ·rw [r5saneL4]
   cases decide ((k : Int) < (m.2.2.2.2.1.length : Int)) <;> rfl
  ·rw [r5saneL4]
   simp only [dnlt, cond_false, Bool.not_true, cond_true]
end Go.Pli

namespace Go.Pli
open Go Go.PM
theorem small6_loop (m : Im) (h : small6Len m) : ∀ F, m.2.2.2.1.length < F → loopF (small6L1 m) F ((0 : Int), ()) = some (m.2.2.2.1.all fun x => decide (x.1.length + x.2.1.length + x.2.2.2.1.length + x.2.2.2.2.2.2.1.length ≤ 1000), ()) := by
 intro F hF
 have hm := h.1.2.2.2.1
 have key : loopF (small6L1 m) F ((0 : Int), ()) = bif m.2.2.2.1.all (fun x => decide (x.1.length + x.2.1.length + x.2.2.2.1.length + x.2.2.2.2.2.2.1.length ≤ 1000)) then some (true, ()) else some (false, ()) := by
  refine loop_all (st := fun k => ((k : Int), ())) (p := fun x : Mt => decide (x.1.length + x.2.1.length + x.2.2.2.1.length + x.2.2.2.2.2.2.1.length ≤ 1000)) (fun k x rec hk hlt => ?_) (fun rec => ?_) _ hF
  ·rw [small6L1]
   obtain ⟨⟨l1, _⟩, ⟨l2, _⟩, _, ⟨l4, _⟩, _, _, ⟨l7, _⟩, _⟩ := hm.2 x (List.mem_of_getElem? hk)
   simp only [lenMax] at l1 l2 l4 l7
   simp only [dlt hlt, dge, Bool.and_self, cond_true, Int.toNat_natCast, getD_some hk, wsucc hlt hm.1]
   rw [w64' (n := (x.1.length : Int) + (x.2.1.length : Int)) (by omega) (by omega), w64' (n := (x.1.length : Int) + (x.2.1.length : Int) + (x.2.2.2.1.length : Int)) (by omega) (by omega), w64' (by omega) (by omega)]
   by_cases hc : x.1.length + x.2.1.length + x.2.2.2.1.length + x.2.2.2.2.2.2.1.length ≤ 1000
   ·have : ¬ ((x.1.length : Int) + (x.2.1.length : Int) + (x.2.2.2.1.length : Int) + (x.2.2.2.2.2.2.1.length : Int) > 1000) := by omega
    simp [hc, this]
   ·have : ((x.1.length : Int) + (x.2.1.length : Int) + (x.2.2.2.1.length : Int) + (x.2.2.2.2.2.2.1.length : Int) > 1000) := by omega
    simp [hc, this]
  ·rw [small6L1]
   simp only [dnlt, cond_false]
 rw [key]
 cases m.2.2.2.1.all (fun x => decide (x.1.length + x.2.1.length + x.2.2.2.1.length + x.2.2.2.2.2.2.1.length ≤ 1000)) <;> rfl
theorem total_eq (m : Im) (h : small6Len m) : decide (IntKind.i64.wrap ((IntKind.i64.wrap ((IntKind.i64.wrap ((IntKind.i64.wrap ((m.1.length : Int) + (m.2.1.length : Int))) + (m.2.2.1.length : Int))) + (m.2.2.2.1.length : Int))) + (m.2.2.2.2.1.length : Int)) > 300) = !decide (total5 m ≤ 300) := by
 obtain ⟨⟨⟨l1, _⟩, ⟨l2, _⟩, ⟨l3, _⟩, ⟨l4, _⟩, ⟨l5, _⟩, _⟩, _⟩ := h
 simp only [lenMax] at l1 l2 l3 l4 l5
 rw [w64' (n := (m.1.length : Int) + (m.2.1.length : Int)) (by omega) (by omega), w64' (n := (m.1.length : Int) + (m.2.1.length : Int) + (m.2.2.1.length : Int)) (by omega) (by omega),
  w64' (n := (m.1.length : Int) + (m.2.1.length : Int) + (m.2.2.1.length : Int) + (m.2.2.2.1.length : Int)) (by omega) (by omega), w64' (by omega) (by omega)]
 unfold total5
 by_cases hc : m.1.length + m.2.1.length + m.2.2.1.length + m.2.2.2.1.length + m.2.2.2.2.1.length ≤ 300
 ·have : ¬ ((m.1.length : Int) + (m.2.1.length : Int) + (m.2.2.1.length : Int) + (m.2.2.2.1.length : Int) + (m.2.2.2.2.1.length : Int) > 300) := by omega
  simp [hc, this]
 ·have : ((m.1.length : Int) + (m.2.1.length : Int) + (m.2.2.1.length : Int) + (m.2.2.2.1.length : Int) + (m.2.2.2.2.1.length : Int) > 300) := by omega
  simp [hc, this]
theorem small6_eq (m : Im) (h : small6Len m) : ∃ k, small6N k m = some (small6 m, ()) := by
 refine ⟨m.2.2.2.1.length + 1, ?_⟩
 unfold small6N small6
 rw [small6_loop m h _ (by omega), total_eq m h]
 cases decide (total5 m ≤ 300) <;> rfl
end Go.Pli

namespace Go.Pli
open Go Go.PM
end Go.Pli

namespace Go.Pli
open Go Go.PM
end Go.Pli

