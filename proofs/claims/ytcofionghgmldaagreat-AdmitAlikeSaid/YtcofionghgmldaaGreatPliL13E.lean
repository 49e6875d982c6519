/- Sums: the printed functions come to what is told in plain Lean. -/
import Derived.Test.YtcofionghgmldaaGreatPliL11
import Derived.Lib.Mul64
namespace Go.Pli
open Go Go.PM
theorem u64_nat (n : Nat) : IntKind.u64.wrap (n : Int) = ((n % 18446744073709551616 : Nat) : Int) := by
 rw [IntKind.wrap_u64]; omega
theorem fdiv_nat (n : Nat) : (n : Int).fdiv 4294967296 = ((n / 4294967296 : Nat) : Int) := by
 rw [Int.fdiv_eq_ediv_of_nonneg _ (by omega)]; rfl
theorem mask_nat (n : Nat) : (((BitVec.ofInt 64 (n : Int) &&& BitVec.ofInt 64 4294967295).toNat : Nat) : Int) = ((n % 4294967296 : Nat) : Int) := by
 have h1 : (BitVec.ofInt 64 (n : Int)).toNat = n % 18446744073709551616 := by
  rw [BitVec.toNat_ofInt]; omega
 have h2 : (BitVec.ofInt 64 4294967295).toNat = 2 ^ 32 - 1 := by decide
 rw [BitVec.toNat_and, h1, h2, Nat.and_two_pow_sub_one_eq_mod]
 congr 1
 omega
theorem mul64_ok (x y : Int) (r) (h : mul64 x y = some r) : mul64N x y = some r := by
 unfold mul64 at h
 cases hb : inU x && inU y <;> simp only [hb, cond_true, cond_false] at h
 ·cases h
 injection h with h
 subst h
 simp only [inU, Bool.and_eq_true, decide_eq_true_eq] at hb
 obtain ⟨⟨x0, x1⟩, y0, y1⟩ := hb
 obtain ⟨a, rfl⟩ : ∃ a : Nat, x = a := ⟨x.toNat, by omega⟩
 obtain ⟨b, rfl⟩ : ∃ b : Nat, y = b := ⟨y.toNat, by omega⟩
 have ha : a < 18446744073709551616 := by omega
 have hb : b < 18446744073709551616 := by omega
 obtain ⟨h1, h2, h3, h4⟩ := Lib.mul64_hi a b ha hb
 have ma : a % 4294967296 % 18446744073709551616 = a % 4294967296 := Nat.mod_eq_of_lt (by omega)
 have mb : b % 4294967296 % 18446744073709551616 = b % 4294967296 := Nat.mod_eq_of_lt (by omega)
 unfold mul64N
 simp only [fdiv_nat, mask_nat, u64_nat, ← Int.natCast_mul, ← Int.natCast_add, ma, mb]
 have e1 : a % 4294967296 * (b % 4294967296) % 18446744073709551616 = a % 4294967296 * (b % 4294967296) := Nat.mod_eq_of_lt h1
 simp only [e1]
 have p1 := Lib.half_mul_le (a := a / 4294967296) (b := b % 4294967296) (by omega) (by omega)
 have e2 : a / 4294967296 * (b % 4294967296) % 18446744073709551616 = a / 4294967296 * (b % 4294967296) := Nat.mod_eq_of_lt (by omega)
 simp only [e2]
 have e3 := Nat.mod_eq_of_lt h2
 simp only [e3]
 have p2 := Lib.half_mul_le (a := a % 4294967296) (b := b / 4294967296) (by omega) (by omega)
 have e4 : a % 4294967296 * (b / 4294967296) % 18446744073709551616 = a % 4294967296 * (b / 4294967296) := Nat.mod_eq_of_lt (by omega)
 have e5 : ∀ t : Nat, t % 4294967296 % 18446744073709551616 = t % 4294967296 := fun t => Nat.mod_eq_of_lt (by omega)
 simp only [e4, e5]
 have e6 := Nat.mod_eq_of_lt h3
 simp only [e6]
 have p3 := Lib.half_mul_le (a := a / 4294967296) (b := b / 4294967296) (by omega) (by omega)
 have e7 : a / 4294967296 * (b / 4294967296) % 18446744073709551616 = a / 4294967296 * (b / 4294967296) := Nat.mod_eq_of_lt (by omega)
 simp only [e7]
 have hq : a * b / 18446744073709551616 < 18446744073709551616 := by
  have := Nat.mul_le_mul (show a ≤ 18446744073709551615 by omega) (show b ≤ 18446744073709551615 by omega)
  omega
 have e8 : (a / 4294967296 * (b / 4294967296) + (a / 4294967296 * (b % 4294967296) + a % 4294967296 * (b % 4294967296) / 4294967296) / 4294967296) % 18446744073709551616 = a / 4294967296 * (b / 4294967296) + (a / 4294967296 * (b % 4294967296) + a % 4294967296 * (b % 4294967296) / 4294967296) / 4294967296 := Nat.mod_eq_of_lt (by omega)
 simp only [e8, h4]
 rw [Nat.mod_eq_of_lt hq]
 rfl
theorem lof_eq (n : Int) : lofN n = some (lof n, ()) := by
 unfold lofN lof
 cases decide (n > -4611686018427387904) <;> rfl
theorem lsize_eq (n : Int) : lsizeN n = some (lsize n, ()) := by
 unfold lsizeN lsize
 cases decide (n < 0) <;> rfl
theorem lplus_ok (a b : Sure) (r) (h : lplus a b = some r) : lplusN a b = some r := by
 rw [← h]
 unfold lplusN lplus plusB
 cases a.2.1 <;> cases b.2.1 <;> rfl
theorem lsize_in (n : Int) : inU (lsize n) = true := by
 unfold lsize inU
 cases decide (n < 0) <;> simp only [cond_true, cond_false, Bool.and_eq_true, decide_eq_true_eq, IntKind.wrap_u64] <;> omega
theorem ltimes_ok (a b : Sure) (r) (h : ltimes a b = some r) : ltimesN a b = some r := by
 rw [← h]
 have hm : mul64 (lsize a.1) (lsize b.1) = some (lsize a.1 * lsize b.1 / 18446744073709551616, lsize a.1 * lsize b.1 % 18446744073709551616, ()) := by
  unfold mul64; rw [lsize_in, lsize_in]; rfl
 unfold ltimesN ltimes timesB
 rw [hm]
 generalize lsize a.1 * lsize b.1 / 18446744073709551616 = u
 generalize lsize a.1 * lsize b.1 % 18446744073709551616 = v
 cases a.2.1 <;> cases b.2.1 <;> simp only [Bool.not_true, Bool.not_false, Bool.and_self, Bool.and_true, Bool.and_false, cond_true, cond_false, Option.bind_some]
 by_cases hu : u = 0
 ·have : (u != 0) = false := by simp [hu]
  simp only [hu, ne_eq, not_true_eq_false, decide_false, Bool.false_or]
  cases decide (v ≥ 4611686018427387904) <;> rfl
 ·have : (u != 0) = true := by simp [hu]
  simp only [this, hu, ne_eq, not_false_eq_true, decide_true, Bool.true_or, cond_true]
theorem sumS_step (p : Int × Int) : ∀ (l : List (Int × Int)) (a : Sure), sumS (l ++ [p]) a = plusB (sumS l a) (timesB (lof p.1) (lof p.2))
 | [], _ => rfl
 | _ :: l, _ => sumS_step p l _
theorem lholds_ok (q : Iq) (v : List Int) (r) (h : lholds q v = some r) : ∃ k, lholdsN k q v = some r := by
 unfold lholds at h
 cases hb : okL q.1 <;> simp only [hb, cond_true, cond_false] at h
 ·cases h
 injection h with h
 subst h
 have hl := okL_lt hb
 refine ⟨q.1.length + 1, ?_⟩
 unfold lholdsN holdsB
 by_cases he : q.1.length = v.length
 ·have e1 : ((q.1.length : Int) != (v.length : Int)) = false := by rw [he]; simp
  have e2 : decide (q.1.length ≠ v.length) = false := by simp [he]
  simp only [e1, e2, cond_false]
  have := loop_seq (L := lholdsL1 q v) (n := q.1.length) (st := fun k => ((k : Int), sumS ((q.1.zip v).take k) (lof 0), ())) (fin := some (holdsE q.2.1 (sumS (q.1.zip v) (lof 0))))
   (fun k rec hk => by
    have hv : k < v.length := by omega
    have hz : (q.1.zip v)[k]? = some (q.1.getD k 0, v.getD k 0) := by
     rw [List.getElem?_eq_getElem (show k < (q.1.zip v).length by rw [List.length_zip]; omega)]
     simp [hk, hv]
    rw [lholdsL1]
    simp only [dlt hk, dlt hv, dge, Bool.and_self, cond_true, Int.toNat_natCast, wsucc hk (show _ ≤ lenMax by simp only [lenMax]; omega), ltimes, lplus, Option.bind_some]
    rw [List.take_add_one, hz]
    show _ = rec (_, sumS ((q.1.zip v).take k ++ [(q.1.getD k 0, v.getD k 0)]) (lof 0), ())
    rw [sumS_step])
   (fun rec => by
    have : (q.1.zip v).take q.1.length = q.1.zip v := List.take_of_length_le (by rw [List.length_zip]; omega)
    rw [lholdsL1]
    simp only [dnlt, cond_false, this, holdsE]
    cases (sumS (q.1.zip v) (lof 0)).2.1 <;> rfl) (q.1.length + 1) (by omega)
  exact this
 ·have e1 : ((q.1.length : Int) != (v.length : Int)) = true := by simp; omega
  have e2 : decide (q.1.length ≠ v.length) = true := by simp [he]
  simp only [e1, e2, cond_true]
end Go.Pli

namespace Go.Pli
open Go Go.PM
theorem pshape_ok (l : List (List Sh)) (f pc : Int) (r) (h : pshape l f pc = some r) : pshapeN l f pc = some r := by
 unfold pshape at h
 cases hb : decide (0 ≤ f) && decide (0 ≤ pc) <;> simp only [hb, cond_true, cond_false] at h
 ·cases h
 injection h with h
 subst h
 simp only [Bool.and_eq_true, decide_eq_true_eq] at hb
 unfold pshapeN shapeB
 by_cases h1 : f ≥ (l.length : Int)
 ·have e : l.getD f.toNat [] = [] := getD_out (by omega)
  simp only [h1, decide_true, cond_true, e]
  rfl
 ·have h1' : f < (l.length : Int) := by omega
  simp only [h1, h1', hb.1, decide_true, decide_false, Bool.and_self, cond_true, cond_false]
  by_cases h2 : pc ≥ ((l.getD f.toNat []).length : Int)
  ·have e : (l.getD f.toNat []).getD pc.toNat zSh = zSh := getD_out (by omega)
   simp only [h2, decide_true, cond_true, e]
  ·have h2' : pc < ((l.getD f.toNat []).length : Int) := by omega
   simp only [h2, h2', hb.2, decide_true, decide_false, Bool.and_self, cond_true, cond_false]
theorem pcost_ok (m : Im) (i : Ins) (r) (h : pcost m i = some r) : ∃ k, pcostN k m i = some r := by
 unfold pcost at h
 cases hi : ifits m <;> simp only [hi, cond_true, cond_false] at h
 ·cases h
 injection h with h
 subst h
 have htl := targetsB_len hi i
 have h12 := (fit_of hi).methods
 have hfl := fieldsB_len hi i.2.1
 have ht : ctargets m i = some (targetsB m i, ()) := by unfold ctargets; rw [hi]; rfl
 refine ⟨1001, ?_⟩
 have hc : csize m i.2.1 = some (sizeB m i.2.1, ()) := by unfold csize; rw [hi]; rfl
 unfold pcostN costB
 rw [hc, ht]
 cases i.1 == 22 <;> cases i.1 == 23 <;> simp only [cond_true, cond_false, Option.bind_some]
 have := loop_seq (L := pcostL1 m (targetsB m i, ())) (n := (targetsB m i).length) (st := fun k => (maxL ((((targetsB m i).take k).filter (inM m)).map (potOf m)), (k : Int), ())) (fin := some (maxL (((targetsB m i).filter (inM m)).map (potOf m)), ()))
  (fun k rec hk => by
   have hw := wsucc hk (show _ ≤ lenMax by simp only [lenMax]; omega)
   have hx : (targetsB m i)[k]? = some (targetsB m i)[k] := List.getElem?_eq_getElem hk
   have fold : ∀ g : Int, m.2.2.2.1.getD g.toNat zMt = mtOf m g := fun _ => rfl
   rw [pcostL1]
   simp only [dlt hk, dge, Bool.and_self, cond_true, Int.toNat_natCast, getD_some hx, hw, fold]
   rw [List.take_add_one, hx]
   generalize (targetsB m i)[k] = g
   by_cases h0 : g ≥ 0
   ·by_cases h1 : g < (m.2.2.2.1.length : Int)
    ·have hin : inM m g = true := inM_iff.2 ⟨h0, h1⟩
     have h0' : 0 ≤ g := h0
     simp only [h0, h1, decide_true, Bool.and_self, cond_true, Option.toList_some, List.filter_append, List.filter_cons, List.filter_nil, hin, if_true, List.map_append, List.map_cons, List.map_nil]
     unfold maxL
     rw [List.foldl_append]
     rfl
    ·have hin : inM m g = false := by
      cases hh : inM m g
      ·rfl
      ·exact absurd (inM_iff.1 hh).2 h1
     simp only [h0, h1, decide_true, decide_false, cond_true, cond_false, Option.toList_some, List.filter_append, List.filter_cons, List.filter_nil, hin, Bool.false_eq_true, if_false, List.append_nil]
   ·have hin : inM m g = false := by
     cases hh : inM m g
     ·rfl
     ·exact absurd (inM_iff.1 hh).1 h0
    simp only [h0, decide_false, cond_false, Option.toList_some, List.filter_append, List.filter_cons, List.filter_nil, hin, Bool.false_eq_true, if_false, List.append_nil])
  (fun rec => by
   rw [pcostL1]
   simp only [dnlt, cond_false, List.take_length]) 1001 (by omega)
 exact this
theorem prow_at {n a b c : Int} (h0 : 0 ≤ n) (h1 : n < 1000000) (ha : a < n) (hb : b < n) : prow n a b c = some (rowB n a b c, ()) := by
 unfold prow
 rw [decide_eq_true h0, decide_eq_true ha, decide_eq_true hb, blt_of (show n.toNat < 1000000 by omega)]
 rfl
theorem prow_ok (n a b c : Int) (r) (h : prow n a b c = some r) : prowN n a b c = some r := by
 unfold prow at h
 cases hh : decide (0 ≤ n) && (Nat.blt n.toNat 1000000 && (decide (a < n) && decide (b < n))) <;> simp only [hh, cond_true, cond_false] at h
 ·cases h
 injection h with h
 subst h
 simp only [Bool.and_eq_true, decide_eq_true_eq, Nat.blt_eq] at hh
 obtain ⟨n0, n1, an, bn⟩ := hh
 have e0 : decide (n ≤ n) = true := decide_eq_true (by omega)
 have e1 : decide (n < (rowMax : Int)) = true := decide_eq_true (by simp only [rowMax]; omega)
 have en : ((n.toNat : Nat) : Int) = n := by omega
 unfold prowN rowB addA
 simp only [n0, e0, e1, decide_true, Bool.and_self, cond_true, List.length_set, List.length_replicate, en, an, bn, Bool.and_true]
 by_cases ha : a ≥ 0 <;> by_cases hb : b ≥ 0
 ·have ha' : 0 ≤ a := ha
  have hb' : 0 ≤ b := hb
  simp only [ha, hb, decide_true, cond_true]
  rfl
 ·have ha' : 0 ≤ a := ha
  simp only [ha, hb, decide_true, decide_false, cond_true, cond_false]
  rfl
 ·have hb' : 0 ≤ b := hb
  simp only [ha, hb, decide_true, decide_false, cond_true, cond_false]
 ·simp only [ha, hb, decide_false, cond_false]
theorem indexNeg_eq (l : List Int) (c : Unit) (h : indexNegLen l c) : ∃ k, indexNegN k l c = some (indexNeg l c, ()) := by
 refine ⟨l.length + 1, loop_index (st := fun k => ((k : Int), ())) (p := negB) (fun k x rec hk hlt => ?_) (fun rec => ?_) _ (Nat.lt_succ_self _)⟩
 ·unfold indexNegL1
  simp only [dlt hlt, dge, Bool.and_self, cond_true, Int.toNat_natCast, getD_some hk, wsucc hlt h.1.1]
  rfl
 ·unfold indexNegL1
  simp only [dnlt, cond_false]
theorem containsNeg_eq (l : List Int) (c : Unit) (_ : containsNegLen l c) : containsNegN l c = some (containsNeg l c, ()) := by
 unfold containsNegN indexNeg containsNeg
 rw [indexF_any]
theorem ruleAt_len (m : Im) (l : List (List Sh)) (f pc : Int) : (ruleAt m l f pc).length ≤ 3 := by
 have h2 : (stepB m f pc (shapeB l f pc).2.1).2.1.length ≤ 2 := step_two ..
 unfold ruleAt
 cases !(shapeB l f pc).1 <;> simp only [cond_true, cond_false]
 ·cases (stepB m f pc (shapeB l f pc).2.1).2.2.1 != 0 <;> simp only [cond_true, cond_false]
  ·rw [List.length_append, List.length_map]
   cases decide ((stepB m f pc (shapeB l f pc).2.1).2.1.length = 0) <;> simp only [cond_true, cond_false, List.length_cons, List.length_nil] <;> omega
  ·simp
 ·simp
theorem shape_ok {l : List (List Sh)} (h : okSS l = true) (f pc : Int) : okL (shapeB l f pc).2.1 = true := by
 unfold shapeB
 by_cases h1 : f.toNat < l.length
 ·obtain ⟨-, h2⟩ := okSS_row h h1
  by_cases h3 : pc.toNat < (l.getD f.toNat []).length
  ·rw [getD_some (List.getElem?_eq_getElem h3)]
   exact okL_of (h2 _ (List.getElem_mem h3))
  ·rw [getD_out (by omega)]; rfl
 ·rw [getD_out (show l.length ≤ f.toNat by omega)]; rfl
theorem rules_inner {m : Im} (hs : saneP m = true) {f : Int} (hf : inM m f = true) {k : Nat} (hk : k < codeN m f) {S : St4} (h2 : S.2.1.length ≤ 2) (hto : ∀ to ∈ S.2.1, 0 ≤ to ∧ to < (codeN m f : Int)) {o : List Iq} {rec : (List Iq × Int × Unit) → Option (List Iq × Unit)} {F : Nat} (hF : 1000 < F) (pre : List Iq) (hpre : pre.length < 1000000) :
  loopF (prulesL1 m f S (o, (k : Int), ()) rec) F (pre, (0 : Int), ()) = rec (pre ++ S.2.1.map (fun to => rowB (codeN m f : Int) (k : Int) to (IntKind.i64.wrap (0 - costB m (insOf m f (k : Int))))), ((k + 1 : Nat) : Int), ()) := by
 have hc := sane_code hs hf
 have hw := wsucc hk (show _ ≤ lenMax by simp only [lenMax]; omega)
 have fold : ∀ g : Int, m.2.2.2.1.getD g.toNat zMt = mtOf m g := fun _ => rfl
 have fold3 : (mtOf m f).2.2.2.1.length = codeN m f := rfl
 have fold2 : (mtOf m f).2.2.2.1.getD k zIns = insOf m f (k : Int) := rfl
 have hcost : pcost m (insOf m f (k : Int)) = some (costB m (insOf m f (k : Int)), ()) := by unfold pcost; rw [(saneP_of hs).1]; rfl
 generalize hR : S.2.1.map (fun to => rowB (codeN m f : Int) (k : Int) to (IntKind.i64.wrap (0 - costB m (insOf m f (k : Int))))) = R
 have hRl : R.length = S.2.1.length := by rw [← hR, List.length_map]
 have := loop_seq (L := prulesL1 m f S (o, (k : Int), ()) rec) (n := S.2.1.length) (st := fun j => (pre ++ R.take j, (j : Int), ()))
  (fin := rec (pre ++ R, ((k + 1 : Nat) : Int), ()))
  (fun j rec2 hj => by
   have hx : S.2.1[j]? = some S.2.1[j] := List.getElem?_eq_getElem hj
   obtain ⟨t0, t1⟩ := hto _ (List.getElem_mem hj)
   have hxR : R[j]? = some (rowB (codeN m f : Int) (k : Int) S.2.1[j] (IntKind.i64.wrap (0 - costB m (insOf m f (k : Int))))) := by
    rw [← hR, List.getElem?_map, hx]
    rfl
   have hroom : decide ((pre ++ R.take j).length + (0 + 1) < rowMax) = true := room_ok (by rw [List.length_append, List.length_take]; omega)
   rw [prulesL1]
   simp only [fold, fold3, Int.toNat_natCast, fold2, dlt hj, dge, Bool.and_self, cond_true, getD_some hx]
   rw [hcost, Option.bind_some, prow_at (by omega) (by omega) (by omega) (by omega), Option.bind_some]
   simp only [List.length_cons, List.length_nil, hroom, cond_true, wsucc hj (show _ ≤ lenMax by simp only [lenMax]; omega)]
   rw [List.take_add_one, hxR, List.append_assoc]
   rfl)
  (fun rec2 => by
   rw [prulesL1]
   simp only [dnlt, cond_false, hw]
   rw [List.take_of_length_le (by omega)]) F (by omega)
 rw [List.take_zero, List.append_nil] at this
 exact this
theorem prules_ok (m : Im) (l : List (List Sh)) (f : Int) (r) (h : prules m l f = some r) : ∃ k, prulesN k m l f = some r := by
 unfold prules at h
 cases hb : saneP m && okSS l <;> simp only [hb, cond_true, cond_false] at h
 ·cases h
 injection h with h
 subst h
 simp only [Bool.and_eq_true] at hb
 obtain ⟨hs, hl⟩ := hb
 obtain ⟨F, hF⟩ : ∃ F : Nat, 1000 < F := ⟨1001, by omega⟩
 refine ⟨F, ?_⟩
 have fold : ∀ g : Int, m.2.2.2.1.getD g.toNat zMt = mtOf m g := fun _ => rfl
 have fold3 : (mtOf m f).2.2.2.1.length = codeN m f := rfl
 have fold4 : (mtOf m f).2.2.2.2.2.1 = potOf m f := rfl
 unfold prulesN rulesB
 simp only [fold, fold3, fold4]
 cases hf : inM m f
 ·simp only [cond_false]
  have : ¬ (0 ≤ f ∧ f < (m.2.2.2.1.length : Int)) := fun hh => by rw [inM_iff.2 hh] at hf; cases hf
  by_cases h0 : f < 0
  ·simp only [h0, decide_true, cond_true]
  ·have h1 : f ≥ (m.2.2.2.1.length : Int) := by omega
   simp only [h0, h1, decide_true, decide_false, cond_true, cond_false]
 obtain ⟨f0, f1⟩ := inM_iff.1 hf
 have f2 : ¬ f < 0 := by omega
 have f3 : ¬ f ≥ (m.2.2.2.1.length : Int) := by omega
 have hc := sane_code hs hf
 have hc0 : ((codeN m f : Int) == 0) = false := beq_eq_false_iff_ne.2 (by omega)
 rw [decide_eq_false f2, cond_false, decide_eq_false f3, cond_false, decide_eq_true f0, decide_eq_true f1, Bool.and_self, cond_true, hc0, cond_false, cond_true, cond_true, cond_true]
 rw [prow_at (by omega) (by omega) (by omega) (by omega), Option.bind_some]
 have := loop_coll (L := prulesL2 m l f F) (n := codeN m f) (B := 3) (st := fun k out => (rowB (codeN m f : Int) (-1) 0 (potOf m f) :: out, (k : Int), ())) (f := fun k => ruleAt m l f (k : Int)) (fin := fun out => some (rowB (codeN m f : Int) (-1) 0 (potOf m f) :: out, ()))
  (fun k _ => ruleAt_len ..)
  (fun k out rec hk ho => by
   have hw := wsucc hk (show _ ≤ lenMax by simp only [lenMax]; omega)
   have hp : pshape l f (k : Int) = some (shapeB l f (k : Int), ()) := by unfold pshape; simp only [f0, dge, decide_true, Bool.and_self, cond_true]
   have hst : fstep m f (k : Int) (shapeB l f (k : Int)).2.1 = some (stepB m f (k : Int) (shapeB l f (k : Int)).2.1) := by unfold fstep; rw [hs, shape_ok hl]; rfl
   have fold2 : (mtOf m f).2.2.2.1.getD k zIns = insOf m f (k : Int) := rfl
   have d1 : decide ((k : Int) < (((mtOf m f).2.2.2.1.length : Nat) : Int)) = true := dlt hk
   rw [prulesL2]
   dsimp only
   rw [fold, d1, cond_true, dge, Bool.and_true, cond_true, hp, Option.bind_some]
   dsimp only
   cases h1 : (shapeB l f (k : Int)).1
   case false =>
    rw [Bool.not_false, cond_true, hw]
    simp only [ruleAt, h1, Bool.not_false, cond_true, List.append_nil]
   rw [Bool.not_true, cond_false, hst, Option.bind_some]
   have h2 : (stepB m f (k : Int) (shapeB l f (k : Int)).2.1).2.1.length ≤ 2 := step_two ..
   cases h3 : (stepB m f (k : Int) (shapeB l f (k : Int)).2.1).2.2.1 != 0
   case true =>
    rw [cond_true, hw]
    simp only [ruleAt, h1, h3, Bool.not_true, cond_false, cond_true, List.append_nil]
   obtain ⟨-, -, -, hto⟩ := step_facts hs (f := f) (pc := (k : Int)) (s := (shapeB l f (k : Int)).2.1) (by simpa using h3)
   rw [cond_false]
   have hrule : ruleAt m l f (k : Int) = (bif decide ((stepB m f (k : Int) (shapeB l f (k : Int)).2.1).2.1.length = 0) then [rowB (codeN m f : Int) (k : Int) (-1) 0] else []) ++ (stepB m f (k : Int) (shapeB l f (k : Int)).2.1).2.1.map fun to => rowB (codeN m f : Int) (k : Int) to (IntKind.i64.wrap (0 - costB m (insOf m f (k : Int)))) := by simp only [ruleAt, h1, h3, Bool.not_true, cond_false]
   rw [hrule]
   generalize hS : stepB m f (k : Int) (shapeB l f (k : Int)).2.1 = S at h2 h3 hto
   have inner := rules_inner hs hf hk h2 hto (o := rowB (codeN m f : Int) (-1) 0 (potOf m f) :: out) (rec := rec) hF
   by_cases h0 : S.2.1.length = 0
   ·have e1 : ((S.2.1.length : Int) == 0) = true := by rw [h0]; rfl
    have e2 : decide (S.2.1.length = 0) = true := decide_eq_true h0
    have hroom : decide ((rowB (codeN m f : Int) (-1) 0 (potOf m f) :: out).length + (0 + 1) < rowMax) = true := room_ok (by simp only [List.length_cons]; omega)
    rw [e1, e2, cond_true, cond_true]
    rw [fold3, prow_at (by omega) (by omega) (by omega) (by omega), Option.bind_some]
    have e3 : ∀ q : Iq, ([q] : List Iq).length = 0 + 1 := fun _ => rfl
    rw [e3, hroom, cond_true, Option.bind_some]
    refine (inner (rowB (codeN m f : Int) (-1) 0 (potOf m f) :: out ++ [rowB (codeN m f : Int) (k : Int) (-1) 0]) (by rw [List.length_append, List.length_cons, List.length_cons, List.length_nil]; omega)).trans ?_
    rw [List.append_assoc, List.cons_append]
   ·have e1 : ((S.2.1.length : Int) == 0) = false := beq_eq_false_iff_ne.2 (by omega)
    have e2 : decide (S.2.1.length = 0) = false := decide_eq_false h0
    rw [e1, e2, cond_false, cond_false, Option.bind_some]
    refine (inner (rowB (codeN m f : Int) (-1) 0 (potOf m f) :: out) (by rw [List.length_cons]; omega)).trans ?_
    rw [List.cons_append, List.nil_append])
  (fun out rec _ => by
   rw [prulesL2]
   simp only [fold, fold3, dnlt, cond_false, idL]) F (by omega)
 exact this
theorem rulesB_len {m : Im} (hs : saneP m = true) (l : List (List Sh)) (f : Int) : (rulesB m l f).length ≤ 1000 := by
 unfold rulesB
 cases hf : inM m f <;> simp only [cond_true, cond_false]
 ·simp
 have hc := sane_code hs hf
 have key : ∀ n : Nat, (((List.range n).map fun k : Nat => ruleAt m l f (k : Int)).flatten).length ≤ 3 * n := by
  intro n
  induction n with
  | zero => simp
  | succ n ih =>
   have := ruleAt_len m l f (n : Int)
   rw [List.range_succ, List.map_append, List.flatten_append, List.length_append]
   simp only [List.map_cons, List.map_nil, List.flatten_cons, List.flatten_nil, List.append_nil]
   omega
 have := key (codeN m f)
 rw [List.length_cons]
 omega
theorem rulesB_coef {m : Im} (l : List (List Sh)) (f : Int) : ∀ q ∈ rulesB m l f, q.1.length = codeN m f := by
 have hr : ∀ a b c : Int, (rowB (codeN m f : Int) a b c).1.length = codeN m f := by
  intro a b c
  unfold rowB addA
  cases decide (a ≥ 0) <;> cases decide (b ≥ 0) <;> simp
 intro q hq
 unfold rulesB at hq
 cases hf : inM m f <;> simp only [hf, cond_true, cond_false] at hq
 ·cases hq
 rcases List.mem_cons.1 hq with rfl | hq
 ·exact hr ..
 simp only [List.mem_flatten, List.mem_map] at hq
 obtain ⟨x, ⟨k, -, rfl⟩, hq⟩ := hq
 unfold ruleAt at hq
 cases h1 : !(shapeB l f (k : Int)).1 <;> simp only [h1, cond_true, cond_false] at hq
 ·cases h2 : (stepB m f (k : Int) (shapeB l f (k : Int)).2.1).2.2.1 != 0 <;> simp only [h2, cond_true, cond_false] at hq
  ·rw [List.mem_append] at hq
   rcases hq with hq | hq
   ·cases h3 : decide ((stepB m f (k : Int) (shapeB l f (k : Int)).2.1).2.1.length = 0) <;> simp only [h3, cond_true, cond_false] at hq
    ·cases hq
    ·rw [List.mem_singleton] at hq; subst hq; exact hr ..
   ·obtain ⟨t, -, rfl⟩ := List.mem_map.1 hq
    exact hr ..
  ·cases hq
 ·cases hq
theorem pcheck_loop {m : Im} {l : List (List Sh)} (hs : saneP m = true) (hl : okSS l = true) : ∀ (j k F : Nat), k + j = m.2.2.2.1.length → j < F → loopF (pcheckL2 m l 1001) F ((k : Int), ()) = some (potM m l ((List.range' k j).map fun n : Nat => (n : Int)))
 | 0, k, F, hk, hF => by
  obtain ⟨F, rfl⟩ : ∃ n, F = n + 1 := ⟨F - 1, by omega⟩
  have : k = m.2.2.2.1.length := by omega
  subst this
  rw [loopF_step, pcheckL2]
  simp only [dnlt, cond_false]
  rfl
 | j + 1, k, F, hk, hF => by
  obtain ⟨F, rfl⟩ : ∃ n, F = n + 1 := ⟨F - 1, by omega⟩
  have h12 := (fit_of (saneP_of hs).1).methods
  have hlt : k < m.2.2.2.1.length := by omega
  have hin : inM m (k : Int) = true := inM_iff.2 ⟨by omega, by omega⟩
  have hc := sane_code hs hin
  have hw := wsucc hlt (show _ ≤ lenMax by simp only [lenMax]; omega)
  have fold : ∀ g : Nat, m.2.2.2.1.getD g zMt = mtOf m (g : Int) := fun _ => rfl
  have fold4 : (mtOf m (k : Int)).2.2.2.2.2.2.1 = phiOf m (k : Int) := rfl
  have hr : prules m l (k : Int) = some (rulesB m l (k : Int), ()) := by unfold prules; rw [hs, hl]; rfl
  have hrl := rulesB_len hs l (k : Int)
  rw [loopF_step, pcheckL2]
  simp only [dlt hlt, dge, Bool.and_self, cond_true, hr, Option.bind_some]
  have key := loop_all (L := pcheckL1 m ((k : Int), ()) (loopF (pcheckL2 m l 1001) F) (rulesB m l (k : Int), ())) (xs := rulesB m l (k : Int)) (st := fun j => ((j : Int), ())) (p := goodR m (k : Int)) (ex := some ((k : Int), 6, ())) (fin := bif (phiOf m (k : Int)).any negB then some ((k : Int), 6, ()) else loopF (pcheckL2 m l 1001) F (((k + 1 : Nat) : Int), ()))
   (fun j q rec hj hjl => by
    have hh : lholds q (phiOf m (k : Int)) = some (holdsB q (phiOf m (k : Int))) := by
     have := rulesB_coef (m := m) l (k : Int) q (List.mem_of_getElem? hj)
     unfold lholds; rw [okL_of (by omega)]; rfl
    rw [pcheckL1]
    simp only [dlt hjl, dge, Bool.and_self, cond_true, Int.toNat_natCast, getD_some hj, fold, fold4, hh, Option.bind_some, wsucc hjl (show _ ≤ lenMax by simp only [lenMax]; omega), goodR]
    by_cases he : (holdsB q (phiOf m (k : Int))).2.1 = 0
    ·have : ((holdsB q (phiOf m (k : Int))).2.1 != 0) = false := by simp [he]
     simp only [he, decide_true, Bool.true_and]
     cases (holdsB q (phiOf m (k : Int))).1 <;> rfl
    ·have : ((holdsB q (phiOf m (k : Int))).2.1 != 0) = true := by simp [he]
     simp only [this, he, decide_false, Bool.false_and, cond_true, cond_false])
   (fun rec => by
    rw [pcheckL1]
    simp only [dnlt, cond_false, Int.toNat_natCast, fold, fold4, containsNeg, hw]) 1001 (by omega)
  refine key.trans ?_
  rw [List.range'_succ, List.map_cons, potM]
  cases (rulesB m l (k : Int)).all (goodR m (k : Int)) <;> simp only [cond_true, cond_false]
  cases (phiOf m (k : Int)).any negB <;> simp only [cond_true, cond_false]
  exact pcheck_loop hs hl j (k + 1) F (by omega) (by omega)
theorem pcheck_ok (m : Im) (l : List (List Sh)) (r) (h : pcheck m l = some r) : ∃ k, pcheckN k m l = some r := by
 unfold pcheck at h
 cases hb : saneP m && okSS l <;> simp only [hb, cond_true, cond_false] at h
 ·cases h
 injection h with h
 subst h
 simp only [Bool.and_eq_true] at hb
 have h12 := (fit_of (saneP_of hb.1).1).methods
 refine ⟨1001, ?_⟩
 unfold pcheckN
 rw [show ints m.2.2.2.1.length = (List.range' 0 m.2.2.2.1.length).map fun n : Nat => (n : Int) by rw [← List.range_eq_range']; rfl]
 exact pcheck_loop hb.1 hb.2 m.2.2.2.1.length 0 1001 (by omega) (by omega)
theorem r14cost_ok (m : Im) (i : Ins) (r) (h : r14cost m i = some r) : ∃ k, r14costN k m i = some r := by
 unfold r14cost at h
 cases hb : ifits m && (targetsB m i).all (inM m) <;> simp only [hb, cond_true, cond_false] at h
 ·cases h
 injection h with h
 subst h
 simp only [Bool.and_eq_true, List.all_eq_true] at hb
 obtain ⟨hi, hin⟩ := hb
 have htl := targetsB_len hi i
 have h12 := (fit_of hi).methods
 have hfl := fieldsB_len hi i.2.1
 have ht : r8targets m i = some (targetsB m i, ()) := by unfold r8targets; rw [hi]; rfl
 have hc : r5fields m i.2.1 = some (fieldsB m i.2.1, ()) := by unfold r5fields; rw [hi]; rfl
 refine ⟨1001, ?_⟩
 unfold r14costN r14costB
 rw [hc, ht]
 cases i.1 == 22 <;> cases i.1 == 23 <;> simp only [cond_true, cond_false, Option.bind_some]
 ·have := loop_seq (L := r14costL1 m (targetsB m i, ())) (n := (targetsB m i).length) (st := fun k => (maxL (((targetsB m i).take k).map (potOf m)), (k : Int), ())) (fin := some (maxL ((targetsB m i).map (potOf m)), ()))
   (fun k rec hk => by
    have hw := wsucc hk (show _ ≤ lenMax by simp only [lenMax]; omega)
    have hx : (targetsB m i)[k]? = some (targetsB m i)[k] := List.getElem?_eq_getElem hk
    obtain ⟨g0, g1⟩ := inM_iff.1 (hin _ (List.getElem_mem hk))
    have fold : ∀ g : Int, m.2.2.2.1.getD g.toNat zMt = mtOf m g := fun _ => rfl
    have fold4 : ∀ g, (mtOf m g).2.2.2.2.2.1 = potOf m g := fun _ => rfl
    rw [r14costL1]
    simp only [dlt hk, dge, Bool.and_self, cond_true, Int.toNat_natCast, getD_some hx, hw, fold, fold4, g0, g1, decide_true]
    rw [List.take_add_one, hx]
    generalize (targetsB m i)[k] = g
    have hm : maxL (((targetsB m i).take k ++ (some g).toList).map (potOf m)) = max (maxL (((targetsB m i).take k).map (potOf m))) (potOf m g) := by
     unfold maxL
     rw [List.map_append, List.foldl_append]
     rfl
    rw [hm]
    by_cases hgt : potOf m g > maxL (((targetsB m i).take k).map (potOf m))
    ·rw [decide_eq_true hgt, Int.max_eq_right (by omega)]; rfl
    ·rw [decide_eq_false hgt, Int.max_eq_left (by omega)]; rfl)
   (fun rec => by
    rw [r14costL1]
    simp only [dnlt, cond_false, List.take_length]) 1001 (by omega)
  exact this
 ·unfold sizeB
  rw [w64' (by omega) (by omega)]
  simp
 ·unfold sizeB
  rw [w64' (by omega) (by omega)]
  simp
theorem small16_loop (m : Im) (h : small16Len m) : ∀ F, m.2.2.2.1.length < F → loopF (small16L1 m) F ((0 : Int), ()) = some (m.2.2.2.1.all fun x => decide (x.1.length + x.2.1.length + x.2.2.2.1.length + x.2.2.2.2.2.2.1.length ≤ 300), ()) := by
 intro F hF
 have hm := h.1.2.2.2.1
 have key : loopF (small16L1 m) F ((0 : Int), ()) = bif m.2.2.2.1.all (fun x => decide (x.1.length + x.2.1.length + x.2.2.2.1.length + x.2.2.2.2.2.2.1.length ≤ 300)) then some (true, ()) else some (false, ()) := by
  refine loop_all (st := fun k => ((k : Int), ())) (p := fun x : Mt => decide (x.1.length + x.2.1.length + x.2.2.2.1.length + x.2.2.2.2.2.2.1.length ≤ 300)) (fun k x rec hk hlt => ?_) (fun rec => ?_) _ hF
  ·rw [small16L1]
   obtain ⟨⟨l1, _⟩, ⟨l2, _⟩, _, ⟨l4, _⟩, _, _, ⟨l7, _⟩, _⟩ := hm.2 x (List.mem_of_getElem? hk)
   simp only [lenMax] at l1 l2 l4 l7
   simp only [dlt hlt, dge, Bool.and_self, cond_true, Int.toNat_natCast, getD_some hk, wsucc hlt hm.1]
   rw [w64' (n := (x.1.length : Int) + (x.2.1.length : Int)) (by omega) (by omega), w64' (n := (x.1.length : Int) + (x.2.1.length : Int) + (x.2.2.2.1.length : Int)) (by omega) (by omega), w64' (by omega) (by omega)]
   by_cases hc : x.1.length + x.2.1.length + x.2.2.2.1.length + x.2.2.2.2.2.2.1.length ≤ 300
   ·have : ¬ ((x.1.length : Int) + (x.2.1.length : Int) + (x.2.2.2.1.length : Int) + (x.2.2.2.2.2.2.1.length : Int) > 300) := by omega
    simp [hc, this]
   ·have : ((x.1.length : Int) + (x.2.1.length : Int) + (x.2.2.2.1.length : Int) + (x.2.2.2.2.2.2.1.length : Int) > 300) := by omega
    simp [hc, this]
  ·rw [small16L1]
   simp only [dnlt, cond_false]
 rw [key]
 cases m.2.2.2.1.all (fun x => decide (x.1.length + x.2.1.length + x.2.2.2.1.length + x.2.2.2.2.2.2.1.length ≤ 300)) <;> rfl
theorem small16_eq (m : Im) (h : small16Len m) : ∃ k, small16N k m = some (small16 m, ()) := by
 refine ⟨m.2.2.2.1.length + 1, ?_⟩
 unfold small16N small16
 rw [small16_loop m h _ (by omega)]
 obtain ⟨⟨⟨l1, _⟩, ⟨l2, _⟩, ⟨l3, _⟩, ⟨l4, _⟩, ⟨l5, _⟩, _⟩, _⟩ := h
 simp only [lenMax] at l1 l2 l3 l4 l5
 rw [w64' (n := (m.1.length : Int) + (m.2.1.length : Int)) (by omega) (by omega), w64' (n := (m.1.length : Int) + (m.2.1.length : Int) + (m.2.2.1.length : Int)) (by omega) (by omega),
  w64' (n := (m.1.length : Int) + (m.2.1.length : Int) + (m.2.2.1.length : Int) + (m.2.2.2.1.length : Int)) (by omega) (by omega), w64' (by omega) (by omega)]
 unfold total5
 by_cases hc : m.1.length + m.2.1.length + m.2.2.1.length + m.2.2.2.1.length + m.2.2.2.2.1.length ≤ 100
 ·have : ¬ ((m.1.length : Int) + (m.2.1.length : Int) + (m.2.2.1.length : Int) + (m.2.2.2.1.length : Int) + (m.2.2.2.2.1.length : Int) > 100) := by omega
  simp only [hc, this, decide_true, decide_false, Bool.true_and, cond_false]
 ·have : ((m.1.length : Int) + (m.2.1.length : Int) + (m.2.2.1.length : Int) + (m.2.2.2.1.length : Int) + (m.2.2.2.2.1.length : Int) > 100) := by omega
  simp only [hc, this, decide_true, decide_false, Bool.false_and, cond_true]
theorem r8same_ok (a b : List (List Sh)) (r) (h : r8same a b = some r) : ∃ k, r8sameN k a b = some r := by
 unfold r8same at h
 cases hb : okSS a && okSS b <;> simp only [hb, cond_true, cond_false] at h
 ·cases h
 injection h with h
 subst h
 simp only [Bool.and_eq_true] at hb
 obtain ⟨ha, hb⟩ := hb
 have hal : a.length < 1000000 := okL_lt (by simp only [okSS, Bool.and_eq_true] at ha; exact ha.1)
 refine ⟨1000001, ?_⟩
 unfold r8sameN
 by_cases hl : a.length = b.length
 ·have e1 : ((a.length : Int) != (b.length : Int)) = false := by rw [hl]; simp
  simp only [e1, cond_false]
  have key := loop_allN (L := r8sameL2 a b 1000001) (xs := a) (st := fun k => ((k : Int), ())) (p := fun k x => x == b.getD k []) (ex := some (false, ())) (fin := some (true, ()))
   (fun k x rec hk hlt => by
    have hlb : k < b.length := by omega
    obtain ⟨hxl, -⟩ := okSS_row ha hlt
    rw [getD_some hk] at hxl
    have hw := wsucc hlt (show _ ≤ lenMax by simp only [lenMax]; omega)
    rw [r8sameL2]
    simp only [dlt hlt, dlt hlb, dge, Bool.and_self, cond_true, Int.toNat_natCast, getD_some hk]
    generalize hy : b.getD k [] = y
    by_cases hxy : x.length = y.length
    ·have e2 : ((x.length : Int) != (y.length : Int)) = false := by rw [hxy]; simp
     simp only [e2, cond_false]
     have inner := loop_allN (L := r8sameL1 a b ((k : Int), ()) rec) (xs := x) (st := fun j => ((j : Int), ())) (p := fun j s => s == y.getD j zSh) (ex := some (false, ())) (fin := rec (((k + 1 : Nat) : Int), ()))
      (fun j s rec2 hj hjl => by
       have hjy : j < y.length := by omega
       have hw2 := wsucc hjl (show _ ≤ lenMax by simp only [lenMax]; omega)
       rw [r8sameL1]
       simp only [dlt hlt, dlt hlb, dlt hjl, dlt hjy, dge, Bool.and_self, cond_true, Int.toNat_natCast, getD_some hk, hy, getD_some hj, hw2, rtypes]
       have e : (s == y.getD j zSh) = (s.1 == (y.getD j zSh).1 && s.2.1 == (y.getD j zSh).2.1) := by
        generalize y.getD j zSh = t
        obtain ⟨s1, s2, ⟨⟩⟩ := s
        obtain ⟨t1, t2, ⟨⟩⟩ := t
        rw [Bool.eq_iff_iff]
        simp
       rw [e]
       cases s.1 == (y.getD j zSh).1 <;> cases s.2.1 == (y.getD j zSh).2.1 <;> rfl)
      (fun rec2 => by
       rw [r8sameL1]
       simp only [dlt hlt, dge, Bool.and_self, cond_true, Int.toNat_natCast, getD_some hk, dnlt, cond_false, hw]) 1000001 (by omega)
     refine inner.trans ?_
     have e : allN (fun j s => s == y.getD j zSh) 0 x = (x == y) := by
      rw [Bool.eq_iff_iff, allN_true]
      constructor
      ·intro hh
       have : x = y := all_zip_eq zSh x y hxy fun j hj => by
        have := hh j x[j] (List.getElem?_eq_getElem hj)
        rw [Nat.zero_add] at this
        rw [getD_some (List.getElem?_eq_getElem hj)]
        exact this
       rw [this]; simp
      ·intro hh j s hj
       have : x = y := by simpa using hh
       subst this
       rw [Nat.zero_add, getD_some hj]; simp
     rw [e]
    ·have e2 : ((x.length : Int) != (y.length : Int)) = true := by simp; omega
     have e3 : (x == y) = false := by
      cases hh : x == y
      ·rfl
      ·exact absurd (congrArg List.length (by simpa using hh)) hxy
     simp only [e2, e3, cond_true, cond_false])
   (fun rec => by rw [r8sameL2]; simp only [dnlt, cond_false]) 1000001 (by omega)
  refine key.trans ?_
  have e : allN (fun j s => s == b.getD j []) 0 a = (a == b) := by
   rw [Bool.eq_iff_iff, allN_true]
   constructor
   ·intro hh
    have : a = b := all_zip_eq [] a b hl fun j hj => by
     have := hh j a[j] (List.getElem?_eq_getElem hj)
     rw [Nat.zero_add] at this
     rw [getD_some (List.getElem?_eq_getElem hj)]
     exact this
    rw [this]; simp
   ·intro hh j s hj
    have : a = b := by simpa using hh
    subst this
    rw [Nat.zero_add, getD_some hj]; simp
  rw [e]
  cases a == b <;> rfl
 ·have e1 : ((a.length : Int) != (b.length : Int)) = true := by simp; omega
  have e3 : (a == b) = false := by
   cases hh : a == b
   ·rfl
   ·exact absurd (congrArg List.length (by simpa using hh)) hl
  simp only [e1, e3, cond_true]
end Go.Pli

/- All of layer 13 to 16's functions. -/
