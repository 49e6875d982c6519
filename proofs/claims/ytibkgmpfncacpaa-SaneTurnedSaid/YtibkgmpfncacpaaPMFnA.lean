/- PM: a function's call, sound. -/
import Derived.Test.YtibkgmpfncacpaaPMRun
namespace Go.PM
open Go
def packVal : List Value → Value
 | [v] => v
 | vs => .tuple vs.toArray
def OnesTo (P : Program) (W : World) (tmps : Array Value) : List ResultVar → List Value → Prop
 | [], [] => True
 | .tmp t :: l, v :: vs => v = tmps.getD t undef ∧ OnesTo P W tmps l vs
 | .cell a T :: l, v :: vs => (∃ ad, tmps.getD a undef = .pointer (some ad) ∧ (loadVar T ad).run P W = .ok v W) ∧ OnesTo P W tmps l vs
 | _, _ => False
theorem results_run {fn : Func} {vs : List Value} {tmps : Array Value} {P : Program} {w : World} (h : OnesTo P w tmps fn.results.toList vs) : (results fn tmps).run P w = .ok (packVal vs) w := by
 have key : ∀ (f : ResultVar → Sem Value), (∀ t, f (.tmp t) = pure (tmps.getD t undef)) → (∀ a T, f (.cell a T) = do loadVar T (← asAddr (tmps.getD a undef))) →
   ∀ (l : List ResultVar) (vs : List Value), OnesTo P w tmps l vs → (l.mapM f).run P w = .ok vs w := by
  intro f h1 h2 l
  induction l with
  | nil => intro vs h; cases vs with
   | nil => simp
   | cons => exact h.elim
  | cons x l ih =>
   intro vs h
   cases vs with
   | nil => cases x <;> exact h.elim
   | cons v vs =>
    rw [List.mapM_cons]
    cases x with
    | tmp t =>
     obtain ⟨rfl, h⟩ := h
     simp only [h1, Sem.run_bind, Sem.run_pure, Result.andThen_ok, ih vs h]
    | cell a T =>
     obtain ⟨⟨ad, ha, hl⟩, h⟩ := h
     simp only [h2, ha, asAddr, pure_bind, Sem.run_bind, Sem.run_pure, Result.andThen_ok, hl, ih vs h]
 unfold results
 have hr : fn.results = fn.results.toList.toArray := rfl
 rw [hr, List.mapM_toArray]
 simp only [map_eq_pure_bind, bind_assoc, pure_bind, Sem.run_bind]
 rw [key _ (fun t => rfl) (fun a T => rfl) _ vs h]
 simp only [Result.andThen_ok, Sem.run_pure]
 match vs with
 | [] => simp [packVal]
 | [t] => simp [packVal]
 | t1 :: t2 :: ts => simp [packVal]
section
variable {P : Program} {G : Ctx}
theorem setRows_slot {i : Nat} : ∀ (ds : List DV) (k : Nat) (e : Env) (t : Nat), setRows i ds k e (.slot t) = e (.slot t)
 | [], _, _, _ => rfl
 | ⟨ty, x, tip⟩ :: l, k, e, t => by
  cases ty <;> simp only [setRows, setRows_slot l] <;> simp [Env.set]
def SetAlt (i : Nat) (ds : List DV) (k : Nat) (e : Env) (m : Nat) : Prop :=
 (setRows i ds k e (.box m) = e (.box m) ∧ ∀ j el r (y : List r.D) tip, ds[j]? = some ⟨.osl el r, y, tip⟩ → m ≠ lk i (k + j)) ∨
  ∃ j el r, ∃ (y : List r.D), ∃ tip, ds[j]? = some ⟨.osl el r, y, tip⟩ ∧ m = lk i (k + j) ∧ setRows i ds k e (.box m) = .row el r y 0 0
theorem setRows_box {i : Nat} : ∀ (ds : List DV) (k : Nat) (e : Env) (m : Nat), SetAlt i ds k e m
 | [], k, e, m => .inl ⟨rfl, fun j el r y tip h => by simp at h⟩
 | ⟨ty, x, tip⟩ :: l, k, e, m => by
  have plain : (∀ el r, ty ≠ .osl el r) → setRows i (⟨ty, x, tip⟩ :: l) k e = setRows i l (k + 1) e → SetAlt i (⟨ty, x, tip⟩ :: l) k e m := fun hne he => by
   rcases setRows_box l (k + 1) e m with ⟨h1, h2⟩ | ⟨j, el, r, y, tp, h1, h2, h3⟩
   ·refine .inl ⟨by rw [he]; exact h1, fun j el r y tp hj => ?_⟩
    cases j with
    | zero => simp only [List.getElem?_cons_zero, Option.some.injEq] at hj; injection hj with hj _ _; exact absurd hj (hne el r)
    | succ j => rw [show k + (j + 1) = k + 1 + j by omega]; exact h2 j el r y tp (by simpa using hj)
   ·exact .inr ⟨j + 1, el, r, y, tp, by simpa using h1, by rw [show k + (j + 1) = k + 1 + j by omega]; exact h2, by rw [he]; exact h3⟩
  cases ty with
  | osl el r =>
   unfold SetAlt
   simp only [setRows]
   rcases setRows_box l (k + 1) (e.set (.box (lk i k)) (.row el r x 0 0)) m with ⟨h1, h2⟩ | ⟨j, el', r', y, tp, h1, h2, h3⟩
   ·by_cases hm : m = lk i k
    ·refine .inr ⟨0, el, r, x, tip, rfl, by simpa using hm, ?_⟩
     rw [h1]; simp [Env.set, hm]
    ·refine .inl ⟨by rw [h1]; simp [Env.set, hm], fun j el' r' y tp hj => ?_⟩
     cases j with
     | zero => simpa using hm
     | succ j => rw [show k + (j + 1) = k + 1 + j by omega]; exact h2 j el' r' y tp (by simpa using hj)
   ·exact .inr ⟨j + 1, el', r', y, tp, by simpa using h1, by rw [show k + (j + 1) = k + 1 + j by omega]; exact h2, h3⟩
  | _ => exact plain (fun _ _ h => by cases h) rfl
theorem setRows_low {i m : Nat} (h : m < 2000000) (ds : List DV) (k : Nat) (e : Env) : setRows i ds k e (.box m) = e (.box m) := by
 rcases setRows_box ds k e m with ⟨h1, -⟩ | ⟨j, _, _, _, _, _, h2, _⟩
 ·exact h1
 ·have := lk_ge i (k + j); omega
theorem init_slots {g : Gh} {W : World} {own : Nat → Option Lab} {val : Nat → Value} {PS : List Md}
  (hst : ∀ i b t, PS[i]? = some (.tip t) → own b = some (.arg i) → g.own b = some (.slot i))
  (hbx : ∀ i B, val i = .pointer (some ⟨B, 0, none⟩) → (g.bx (1000000 + i)).b = B) :
  ∀ (ps : List Md) (n : Nat) (z : (tupTy ps).D) (vs : List Value), ArgsRep g.fix own W n ps z vs → (∀ j, PS[n + j]? = ps[j]?) → (∀ j v, vs[j]? = some v → val (n + j) = v) →
   ∀ t, SRep g W t (initEnv ps n z (.slot t)) (val t)
 | [], _, _, _, _, _, _, t => trivial
 | .val T :: ps, n, z, [], h, _, _, _ => h.elim
 | .tip T :: ps, n, z, [], h, _, _, _ => h.elim
 | .box _ T :: ps, n, z, [], h, _, _, _ => h.elim
 | .nilp s :: ps, n, z, [], h, _, _, _ => h.elim
 | .cap _ :: ps, n, z, [], h, _, _, _ => h.elim
 | .full _ _ :: ps, n, z, [], h, _, _, _ => h.elim
 | .own _ _ :: _, n, z, [], h, _, _, _ => h.elim
 | .take _ _ :: _, n, z, [], h, _, _, _ => h.elim
 | .str _ :: _, n, z, [], h, _, _, _ => h.elim
 | .str _ :: _, n, z, _ :: _, h, _, _, _ => h.elim
 | .take el r :: ps, n, z, v :: vs, h, hp, hv, t => by
  have ih := init_slots hst hbx ps (n + 1) z.2 vs h.2 (fun j => by simpa [Nat.add_assoc, Nat.add_comm 1] using hp (j + 1)) (fun j v hj => by simpa [Nat.add_assoc, Nat.add_comm 1] using hv (j + 1) v (by simpa using hj)) t
  simp only [initEnv, Env.set, Place.slot.injEq, reduceCtorEq, if_false]
  split
  ·trivial
  ·exact ih
 | .own el r :: ps, n, z, v :: vs, h, hp, hv, t => by
  have ih := init_slots hst hbx ps (n + 1) z.2 vs h.2 (fun j => by simpa [Nat.add_assoc, Nat.add_comm 1] using hp (j + 1)) (fun j v hj => by simpa [Nat.add_assoc, Nat.add_comm 1] using hv (j + 1) v (by simpa using hj)) t
  simp only [initEnv, Env.set, Place.slot.injEq, reduceCtorEq, if_false]
  split
  ·trivial
  ·exact ih
 | .val T :: ps, n, z, v :: vs, h, hp, hv, t => by
  have ih := init_slots hst hbx ps (n + 1) z.2 vs h.2 (fun j => by simpa [Nat.add_assoc, Nat.add_comm 1] using hp (j + 1)) (fun j v hj => by simpa [Nat.add_assoc, Nat.add_comm 1] using hv (j + 1) v (by simpa using hj)) t
  simp only [initEnv, Env.set, Place.slot.injEq]
  split
  ·rename_i he
   subst he
   have h0 := hv 0 v rfl
   rw [Nat.add_zero] at h0
   rw [h0]
   have := (of_dat h.1).slot t
   rwa [of_clear] at this
  ·exact ih
 | .nilp s :: ps, n, z, v :: vs, h, hp, hv, t => by
  have ih := init_slots hst hbx ps (n + 1) z.2 vs h.2 (fun j => by simpa [Nat.add_assoc, Nat.add_comm 1] using hp (j + 1)) (fun j v hj => by simpa [Nat.add_assoc, Nat.add_comm 1] using hv (j + 1) v (by simpa using hj)) t
  simp only [initEnv, Env.set, Place.slot.injEq]
  split
  ·rename_i he
   subst he
   have h0 := hv 0 v rfl
   rw [Nat.add_zero] at h0
   rw [h0]
   have h1 := h.1
   cases s <;> exact h1
  ·exact ih
 | .cap T :: ps, n, z, v :: vs, h, hp, hv, t => by
  have ih := init_slots hst hbx ps (n + 1) z.2 vs h.2 (fun j => by simpa [Nat.add_assoc, Nat.add_comm 1] using hp (j + 1)) (fun j v hj => by simpa [Nat.add_assoc, Nat.add_comm 1] using hv (j + 1) v (by simpa using hj)) t
  simp only [initEnv, Env.set, Place.slot.injEq]
  split
  ·rename_i he
   subst he
   have h0 := hv 0 v rfl
   rw [Nat.add_zero] at h0
   rw [h0]
   obtain ⟨ad, h1, h2, ci, h3, h4⟩ := h.1
   refine ⟨ad, h1, h2, fun j d hj => ?_⟩
   obtain ⟨u, hu, hr⟩ := (Cells.split _ _ _ h3).get j d hj
   exact ⟨u, hr, h4 j u hu⟩
  ·exact ih
 | .full T b :: ps, n, z, v :: vs, h, hp, hv, t => by
  have ih := init_slots hst hbx ps (n + 1) z.2 vs h.2 (fun j => by simpa [Nat.add_assoc, Nat.add_comm 1] using hp (j + 1)) (fun j v hj => by simpa [Nat.add_assoc, Nat.add_comm 1] using hv (j + 1) v (by simpa using hj)) t
  simp only [initEnv, Env.set, Place.slot.injEq]
  split
  ·rename_i he
   subst he
   have h0 := hv 0 v rfl
   rw [Nat.add_zero] at h0
   rw [h0]
   exact h.1
  ·exact ih
 | .tip T :: ps, n, z, v :: vs, h, hp, hv, t => by
  have ih := init_slots hst hbx ps (n + 1) z.2 vs h.2 (fun j => by simpa [Nat.add_assoc, Nat.add_comm 1] using hp (j + 1)) (fun j v hj => by simpa [Nat.add_assoc, Nat.add_comm 1] using hv (j + 1) v (by simpa using hj)) t
  cases T with
  | sl el r =>
   simp only [initEnv, Env.set, Place.slot.injEq]
   split
   ·rename_i he
    subst he
    have h0 := hv 0 v rfl
    rw [Nat.add_zero] at h0
    rw [h0]
    refine ⟨h.1.1, h.1.2.1, fun _ => ?_⟩
    have ht := h.1.2.2
    simp only [Tip] at ht ⊢
    rcases ht with ht | ⟨b, m, cap, cur, h1, h2, h3, h4, h5, h6, h7⟩
    ·exact .inl ht
    ·exact .inr ⟨b, m, cap, cur, h1, h2, h3, h4, h5, hst _ _ _ (by simpa using hp 0) h6, h7⟩
   ·exact ih
  | _ => exact ih
 | .box B T :: ps, n, z, v :: vs, h, hp, hv, t => by
  have ih := init_slots hst hbx ps (n + 1) z.2 vs h.2 (fun j => by simpa [Nat.add_assoc, Nat.add_comm 1] using hp (j + 1)) (fun j v hj => by simpa [Nat.add_assoc, Nat.add_comm 1] using hv (j + 1) v (by simpa using hj)) t
  simp only [initEnv, Env.set, Place.slot.injEq, reduceCtorEq, if_false, setRows_slot]
  split
  ·rename_i he
   subst he
   have h0 := hv 0 v rfl
   rw [Nat.add_zero] at h0
   obtain ⟨Bk, us, h1, -⟩ := h.1
   show _ = _
   rw [h0, h1, hbx t Bk (by rw [h0, h1])]
  ·exact ih
theorem init_boxes {g : Gh} {W : World} {own : Nat → Option Lab} {val : Nat → Value} {PS : List Md}
  (hst : ∀ i b m, PS[i]? = some m → m.isBox = true → own b = some (.arg i) → g.own b = some (.box (1000000 + i)))
  (hsk : ∀ i b el r, PS[i]? = some (.take el r) → own b = some (.arg i) → g.own b = some (.box i))
  (hbx : ∀ i B, val i = .pointer (some ⟨B, 0, none⟩) → (g.bx (1000000 + i)).b = B) (hbh : ∀ i, i < 1000000 → (g.bx (1000000 + i)).h = val i) (hbk : ∀ i el r, PS[i]? = some (.take el r) → (g.bx i).h = val i) (hfl : ∀ (i : Nat) (m : Md), PS[i]? = some m → m.flat = true)
  (hlo : ∀ i k b B t, PS[i]? = some (.box B t) → k < 1000 → own b = some (.arg (lk i k)) → g.own b = some (.box (lk (1000000 + i) k)))
  (hlh : ∀ i k B us t u, PS[i]? = some (.box B t) → val i = .pointer (some ⟨(g.bx (1000000 + i)).b, 0, none⟩) → W.heap[(g.bx (1000000 + i)).b]? = some (.cells us B (0, 0)) → us[k]? = some u → k < 1000 → (g.bx (lk (1000000 + i) k)).h = u) :
  ∀ (ps : List Md) (n : Nat) (z : (tupTy ps).D) (vs : List Value), n + ps.length ≤ 1000000 → ArgsRep g.fix own W n ps z vs → (∀ j, PS[n + j]? = ps[j]?) → (∀ j v, vs[j]? = some v → val (n + j) = v) →
   ∀ i, BRep g W i (initEnv ps n z (.box i))
 | [], _, _, _, _, _, _, _, t => trivial
 | .val T :: ps, n, z, [], _, h, _, _, _ => h.elim
 | .tip T :: ps, n, z, [], _, h, _, _, _ => h.elim
 | .box _ T :: ps, n, z, [], _, h, _, _, _ => h.elim
 | .nilp s :: ps, n, z, [], _, h, _, _, _ => h.elim
 | .cap _ :: ps, n, z, [], _, h, _, _, _ => h.elim
 | .full _ _ :: ps, n, z, [], _, h, _, _, _ => h.elim
 | .own _ _ :: _, n, z, [], _, h, _, _, _ => h.elim
 | .take _ _ :: _, n, z, [], _, h, _, _, _ => h.elim
 | .str _ :: _, n, z, [], _, h, _, _, _ => h.elim
 | .str _ :: _, n, z, _ :: _, _, h, _, _, _ => h.elim
 | .take el r :: ps, n, z, v :: vs, hnl, h, hp, hv, i => by
  have ih := init_boxes hst hsk hbx hbh hbk hfl hlo hlh ps (n + 1) z.2 vs (by simp only [List.length_cons] at hnl; omega) h.2 (fun j => by simpa [Nat.add_assoc, Nat.add_comm 1] using hp (j + 1)) (fun j v hj => by simpa [Nat.add_assoc, Nat.add_comm 1] using hv (j + 1) v (by simpa using hj)) i
  simp only [initEnv, Env.set, Place.box.injEq, reduceCtorEq, if_false]
  split
  ·rename_i he
   subst he
   have h0 := hv 0 v rfl
   rw [Nat.add_zero] at h0
   refine ⟨?_, .plain (hfl i (.take el r) (by simpa using hp 0))⟩
   show RowAt g.fix g.own W (.box i) (g.bx i).h el r z.1
   rw [hbk i el r (by simpa using hp 0), h0]
   obtain ⟨A, c, k1, k2, k3⟩ := h.1
   exact ⟨A, c, k1, k2, k3.imp id fun ⟨b, off, cur, cs, m1, m2, m3, m4⟩ => ⟨b, off, cur, cs, m1, m2, hsk i b el r (by simpa using hp 0) m3, m4⟩⟩
  ·exact ih
 | .own el r :: ps, n, z, v :: vs, hnl, h, hp, hv, i => by
  have ih := init_boxes hst hsk hbx hbh hbk hfl hlo hlh ps (n + 1) z.2 vs (by simp only [List.length_cons] at hnl; omega) h.2 (fun j => by simpa [Nat.add_assoc, Nat.add_comm 1] using hp (j + 1)) (fun j v hj => by simpa [Nat.add_assoc, Nat.add_comm 1] using hv (j + 1) v (by simpa using hj)) i
  simp only [initEnv, Env.set, Place.box.injEq, reduceCtorEq, if_false]
  split
  ·rename_i he
   subst he
   have h0 := hv 0 v rfl
   rw [Nat.add_zero] at h0
   refine ⟨?_, .plain (hfl n (.own el r) (by simpa using hp 0))⟩
   show RowAt g.fix g.own W (.box (1000000 + n)) (g.bx (1000000 + n)).h el r z.1
   rw [hbh n (by have := hnl; simp only [List.length_cons] at this; omega), h0]
   obtain ⟨A, c, k1, k2, k3⟩ := h.1
   exact ⟨A, c, k1, k2, k3.imp id fun ⟨b, off, cur, cs, m1, m2, m3, m4⟩ => ⟨b, off, cur, cs, m1, m2, hst n b (.own el r) (by simpa using hp 0) rfl m3, m4⟩⟩
  ·exact ih
 | .val T :: ps, n, z, v :: vs, hnl, h, hp, hv, i => by
  have ih := init_boxes hst hsk hbx hbh hbk hfl hlo hlh ps (n + 1) z.2 vs (by simp only [List.length_cons] at hnl; omega) h.2 (fun j => by simpa [Nat.add_assoc, Nat.add_comm 1] using hp (j + 1)) (fun j v hj => by simpa [Nat.add_assoc, Nat.add_comm 1] using hv (j + 1) v (by simpa using hj)) i
  simpa [initEnv, Env.set] using ih
 | .nilp s :: ps, n, z, v :: vs, hnl, h, hp, hv, i => by
  have ih := init_boxes hst hsk hbx hbh hbk hfl hlo hlh ps (n + 1) z.2 vs (by simp only [List.length_cons] at hnl; omega) h.2 (fun j => by simpa [Nat.add_assoc, Nat.add_comm 1] using hp (j + 1)) (fun j v hj => by simpa [Nat.add_assoc, Nat.add_comm 1] using hv (j + 1) v (by simpa using hj)) i
  simpa [initEnv, Env.set] using ih
 | .cap T :: ps, n, z, v :: vs, hnl, h, hp, hv, i => by
  have ih := init_boxes hst hsk hbx hbh hbk hfl hlo hlh ps (n + 1) z.2 vs (by simp only [List.length_cons] at hnl; omega) h.2 (fun j => by simpa [Nat.add_assoc, Nat.add_comm 1] using hp (j + 1)) (fun j v hj => by simpa [Nat.add_assoc, Nat.add_comm 1] using hv (j + 1) v (by simpa using hj)) i
  simpa [initEnv, Env.set] using ih
 | .full T b :: ps, n, z, v :: vs, hnl, h, hp, hv, i => by
  have ih := init_boxes hst hsk hbx hbh hbk hfl hlo hlh ps (n + 1) z.2 vs (by simp only [List.length_cons] at hnl; omega) h.2 (fun j => by simpa [Nat.add_assoc, Nat.add_comm 1] using hp (j + 1)) (fun j v hj => by simpa [Nat.add_assoc, Nat.add_comm 1] using hv (j + 1) v (by simpa using hj)) i
  simpa [initEnv, Env.set] using ih
 | .tip T :: ps, n, z, v :: vs, hnl, h, hp, hv, i => by
  have ih := init_boxes hst hsk hbx hbh hbk hfl hlo hlh ps (n + 1) z.2 vs (by simp only [List.length_cons] at hnl; omega) h.2 (fun j => by simpa [Nat.add_assoc, Nat.add_comm 1] using hp (j + 1)) (fun j v hj => by simpa [Nat.add_assoc, Nat.add_comm 1] using hv (j + 1) v (by simpa using hj)) i
  cases T <;> simpa [initEnv, Env.set] using ih
 | .box B T :: ps, n, z, v :: vs, hnl, h, hp, hv, i => by
  have ih := init_boxes hst hsk hbx hbh hbk hfl hlo hlh ps (n + 1) z.2 vs (by simp only [List.length_cons] at hnl; omega) h.2 (fun j => by simpa [Nat.add_assoc, Nat.add_comm 1] using hp (j + 1)) (fun j v hj => by simpa [Nat.add_assoc, Nat.add_comm 1] using hv (j + 1) v (by simpa using hj)) i
  obtain ⟨Bk, us, h1, h2, h3, h4, h5, h6⟩ := h.1
  have h0 := hv 0 v rfl
  rw [Nat.add_zero] at h0
  have hb : (g.bx (1000000 + n)).b = Bk := hbx n Bk (by rw [h0, h1])
  simp only [initEnv, Env.set, Place.box.injEq, reduceCtorEq, if_false]
  split
  ·rename_i he
   subst he
   refine ⟨us, by rw [hb]; exact h2, by rw [hb]; exact hst n Bk (.box B T) (by simpa using hp 0) rfl h3, by rw [hb]; exact h4, (Cells.split _ _ _ h5).lnk, fun j d hd ht => ?_⟩
   have := lnkCells_tip (split_tips T z.1) d (List.mem_of_getElem? hd)
   rw [this] at ht; cases ht
  ·rcases setRows_box (T.split z.1) 0 (initEnv ps (n + 1) z.2) i with ⟨k1, -⟩ | ⟨j, el, r, y, tip, k1, k2, k3⟩
   ·rw [k1]; exact ih
   ·rw [k3]
    obtain ⟨m1, m2, u, m3, m4⟩ := h6 j el r y tip k1
    rw [Nat.zero_add] at k2
    subst k2
    refine ⟨?_, .plain m2⟩
    have hh := hlh n j B us T u (by simpa using hp 0) (by rw [h0, h1, hb]) (by rw [hb]; exact h2) (by simpa using m3) m1
    show RowAt g.fix g.own W (.box (lk (1000000 + n) j)) (g.bx (lk (1000000 + n) j)).h el r y
    rw [hh]
    obtain ⟨A, c, q1, q2, q3⟩ := m4
    exact ⟨A, c, q1, q2, q3.imp id fun ⟨b, off, cur, cs, s1, s2, s3, s4⟩ => ⟨b, off, cur, cs, s1, s2, hlo n j b B T (by simpa using hp 0) m1 s3, s4⟩⟩
theorem init_at : ∀ (ps : List Md) (n : Nat) (z : (tupTy ps).D) (t i lo : Nat), initEnv ps n z (.slot t) = .bptr i lo → 1000000 + n ≤ i
 | [], _, _, _, _, _, h => by cases h
 | .str _ :: ps, n, z, t, i, lo, h => by
  have := init_at ps (n + 1) z.2 t i lo h; omega
 | .val T :: ps, n, z, t, i, lo, h => by
  simp only [initEnv, Env.set, Place.slot.injEq] at h
  split at h
  ·cases T <;> simp [PV.of] at h
  ·have := init_at ps (n + 1) z.2 t i lo h; omega
 | .nilp s :: ps, n, z, t, i, lo, h => by
  simp only [initEnv, Env.set, Place.slot.injEq] at h
  split at h
  ·cases s <;> cases h
  ·have := init_at ps (n + 1) z.2 t i lo h; omega
 | .cap T :: ps, n, z, t, i, lo, h => by
  simp only [initEnv, Env.set, Place.slot.injEq] at h
  split at h
  ·cases h
  ·have := init_at ps (n + 1) z.2 t i lo h; omega
 | .full T b :: ps, n, z, t, i, lo, h => by
  simp only [initEnv, Env.set, Place.slot.injEq] at h
  split at h
  ·cases h
  ·have := init_at ps (n + 1) z.2 t i lo h; omega
 | .take el r :: ps, n, z, t, i, lo, h => by
  simp only [initEnv, Env.set, Place.slot.injEq, reduceCtorEq, if_false] at h
  split at h
  ·cases h
  ·have := init_at ps (n + 1) z.2 t i lo h; omega
 | .own el r :: ps, n, z, t, i, lo, h => by
  simp only [initEnv, Env.set, Place.slot.injEq, reduceCtorEq, if_false] at h
  split at h
  ·cases h
  ·have := init_at ps (n + 1) z.2 t i lo h; omega
 | .tip T :: ps, n, z, t, i, lo, h => by
  cases T <;> simp only [initEnv, Env.set, Place.slot.injEq] at h
  case sl =>
   split at h
   ·cases h
   ·have := init_at ps (n + 1) z.2 t i lo h; omega
  all_goals have := init_at ps (n + 1) z.2 t i lo h; omega
 | .box B T :: ps, n, z, t, i, lo, h => by
  simp only [initEnv, Env.set, Place.slot.injEq, reduceCtorEq, if_false, setRows_slot] at h
  split at h
  ·injection h with h; omega
  ·have := init_at ps (n + 1) z.2 t i lo h; omega
theorem init_lt : ∀ (ps : List Md) (n : Nat) (z : (tupTy ps).D) (t i lo : Nat), initEnv ps n z (.slot t) = .bptr i lo → i < 1000000 + n + ps.length
 | [], _, _, _, _, _, h => by cases h
 | .str _ :: ps, n, z, t, i, lo, h => by
  have := init_lt ps (n + 1) z.2 t i lo h; simp only [List.length_cons]; omega
 | .val T :: ps, n, z, t, i, lo, h => by
  simp only [initEnv, Env.set, Place.slot.injEq] at h
  split at h
  ·cases T <;> simp [PV.of] at h
  ·have := init_lt ps (n + 1) z.2 t i lo h; simp only [List.length_cons]; omega
 | .nilp s :: ps, n, z, t, i, lo, h => by
  simp only [initEnv, Env.set, Place.slot.injEq] at h
  split at h
  ·cases s <;> cases h
  ·have := init_lt ps (n + 1) z.2 t i lo h; simp only [List.length_cons]; omega
 | .cap T :: ps, n, z, t, i, lo, h => by
  simp only [initEnv, Env.set, Place.slot.injEq] at h
  split at h
  ·cases h
  ·have := init_lt ps (n + 1) z.2 t i lo h; simp only [List.length_cons]; omega
 | .full T b :: ps, n, z, t, i, lo, h => by
  simp only [initEnv, Env.set, Place.slot.injEq] at h
  split at h
  ·cases h
  ·have := init_lt ps (n + 1) z.2 t i lo h; simp only [List.length_cons]; omega
 | .take el r :: ps, n, z, t, i, lo, h => by
  simp only [initEnv, Env.set, Place.slot.injEq, reduceCtorEq, if_false] at h
  split at h
  ·cases h
  ·have := init_lt ps (n + 1) z.2 t i lo h; simp only [List.length_cons]; omega
 | .own el r :: ps, n, z, t, i, lo, h => by
  simp only [initEnv, Env.set, Place.slot.injEq, reduceCtorEq, if_false] at h
  split at h
  ·cases h
  ·have := init_lt ps (n + 1) z.2 t i lo h; simp only [List.length_cons]; omega
 | .tip T :: ps, n, z, t, i, lo, h => by
  cases T <;> simp only [initEnv, Env.set, Place.slot.injEq] at h
  case sl =>
   split at h
   ·cases h
   ·have := init_lt ps (n + 1) z.2 t i lo h; simp only [List.length_cons]; omega
  all_goals have := init_lt ps (n + 1) z.2 t i lo h; simp only [List.length_cons]; omega
 | .box B T :: ps, n, z, t, i, lo, h => by
  simp only [initEnv, Env.set, Place.slot.injEq, reduceCtorEq, if_false, setRows_slot] at h
  split at h
  ·injection h with h; simp only [List.length_cons]; omega
  ·have := init_lt ps (n + 1) z.2 t i lo h; simp only [List.length_cons]; omega
theorem init_ptr : ∀ (ps : List Md) (n : Nat) (z : (tupTy ps).D) (t i lo : Nat), n + ps.length ≤ 1000000 → initEnv ps n z (.slot t) = .bptr i lo → (initEnv ps n z (.box i)).isCell = true
 | [], _, _, _, _, _, _, h => by cases h
 | .str _ :: ps, n, z, t, i, lo, hl, h => by
  simp only [List.length_cons] at hl
  exact init_ptr ps (n + 1) z.2 t i lo (by omega) h
 | .val T :: ps, n, z, t, i, lo, hl, h => by
  simp only [List.length_cons] at hl
  simp only [initEnv, Env.set, Place.slot.injEq, reduceCtorEq, if_false] at h ⊢
  split at h
  ·cases T <;> simp [PV.of] at h
  ·exact init_ptr ps (n + 1) z.2 t i lo (by omega) h
 | .nilp s :: ps, n, z, t, i, lo, hl, h => by
  simp only [List.length_cons] at hl
  simp only [initEnv, Env.set, Place.slot.injEq, reduceCtorEq, if_false] at h ⊢
  split at h
  ·cases s <;> cases h
  ·exact init_ptr ps (n + 1) z.2 t i lo (by omega) h
 | .cap T :: ps, n, z, t, i, lo, hl, h => by
  simp only [List.length_cons] at hl
  simp only [initEnv, Env.set, Place.slot.injEq, reduceCtorEq, if_false] at h ⊢
  split at h
  ·cases h
  ·exact init_ptr ps (n + 1) z.2 t i lo (by omega) h
 | .take el r :: ps, n, z, t, i, lo, hl, h => by
  simp only [List.length_cons] at hl
  simp only [initEnv, Env.set, Place.slot.injEq, Place.box.injEq, reduceCtorEq, if_false] at h ⊢
  split at h
  ·cases h
  ·have := init_ptr ps (n + 1) z.2 t i lo (by omega) h
   have hi := init_at ps (n + 1) z.2 t i lo h
   rw [if_neg (by omega)]
   exact this
 | .own el r :: ps, n, z, t, i, lo, hl, h => by
  simp only [List.length_cons] at hl
  simp only [initEnv, Env.set, Place.slot.injEq, Place.box.injEq, reduceCtorEq, if_false] at h ⊢
  split at h
  ·cases h
  ·have := init_ptr ps (n + 1) z.2 t i lo (by omega) h
   have hi := init_at ps (n + 1) z.2 t i lo h
   rw [if_neg (by omega)]
   exact this
 | .full T b :: ps, n, z, t, i, lo, hl, h => by
  simp only [List.length_cons] at hl
  simp only [initEnv, Env.set, Place.slot.injEq, reduceCtorEq, if_false] at h ⊢
  split at h
  ·cases h
  ·exact init_ptr ps (n + 1) z.2 t i lo (by omega) h
 | .tip T :: ps, n, z, t, i, lo, hl, h => by
  simp only [List.length_cons] at hl
  cases T <;> simp only [initEnv, Env.set, Place.slot.injEq, reduceCtorEq, if_false] at h ⊢
  case sl =>
   split at h
   ·cases h
   ·exact init_ptr ps (n + 1) z.2 t i lo (by omega) h
  all_goals exact init_ptr ps (n + 1) z.2 t i lo (by omega) h
 | .box B T :: ps, n, z, t, i, lo, hl, h => by
  simp only [List.length_cons] at hl
  simp only [initEnv, Env.set, Place.slot.injEq, Place.box.injEq, reduceCtorEq, if_false, setRows_slot] at h ⊢
  split
  ·rfl
  ·rename_i hne
   split at h
   ·cases h; exact absurd rfl hne
   ·have hlt := init_lt ps (n + 1) z.2 t i lo h
    rw [setRows_low (by omega)]
    exact init_ptr ps (n + 1) z.2 t i lo (by omega) h
def Kind (n : Nat) (E : Env) (t : Nat) : Prop :=
 (E (.slot t)).at? = none ∨ (∃ i lo, E (.slot t) = .bptr i lo) ∨ (∃ j, E (.slot t) = .hdr j 0 ∧ (j = 1000000 + t ∨ (j = t ∧ t < 1000000)) ∧ ∃ el r xs, E (.box j) = .row el r xs 0 0 ∧ n ≤ t)
theorem Kind.up {n : Nat} {E E' : Env} {t : Nat} (ht : t < 1000000) (h : Kind (n + 1) E t) (hs : E' (.slot t) = E (.slot t)) (hb : ∀ i, i ≠ 1000000 + n → i ≠ n → i < 2000000 → E' (.box i) = E (.box i)) : Kind n E' t := by
 unfold Kind at h ⊢
 rw [hs]
 rcases h with h | h | ⟨j, h1, hj, el, r, xs, h2, h3⟩
 ·exact .inl h
 ·exact .inr (.inl h)
 ·exact .inr (.inr ⟨j, h1, hj, el, r, xs, by rw [hb _ (by omega) (by omega) (by omega)]; exact h2, by omega⟩)
theorem init_kind : ∀ (ps : List Md) (n : Nat) (z : (tupTy ps).D) (t : Nat), t < 1000000 → n + ps.length ≤ 1000000 → Kind n (initEnv ps n z) t
 | [], _, _, _, _, _ => .inl rfl
 | .str _ :: ps, n, z, t, htl, hl => by
  simp only [List.length_cons] at hl
  exact (init_kind ps (n + 1) z.2 t htl (by omega)).up htl rfl (fun i hi hi2 hi3 => rfl)
 | .val T :: ps, n, z, t, htl, hl => by
  simp only [List.length_cons] at hl
  by_cases h : t = n
  ·subst h; left; simp only [initEnv, Env.set, if_true]; cases T <;> rfl
  ·exact (init_kind ps (n + 1) z.2 t htl (by omega)).up htl (by simp [initEnv, Env.set, h]) (fun i hi hi2 hi3 => by simp [initEnv, Env.set])
 | .nilp s :: ps, n, z, t, htl, hl => by
  simp only [List.length_cons] at hl
  by_cases h : t = n
  ·subst h; left; simp only [initEnv, Env.set, if_true]; cases s <;> rfl
  ·exact (init_kind ps (n + 1) z.2 t htl (by omega)).up htl (by simp [initEnv, Env.set, h]) (fun i hi hi2 hi3 => by simp [initEnv, Env.set])
 | .cap T :: ps, n, z, t, htl, hl => by
  simp only [List.length_cons] at hl
  by_cases h : t = n
  ·subst h; left; simp only [initEnv, Env.set, if_true]; rfl
  ·exact (init_kind ps (n + 1) z.2 t htl (by omega)).up htl (by simp [initEnv, Env.set, h]) (fun i hi hi2 hi3 => by simp [initEnv, Env.set])
 | .full T b :: ps, n, z, t, htl, hl => by
  simp only [List.length_cons] at hl
  by_cases h : t = n
  ·subst h; left; simp only [initEnv, Env.set, if_true]; rfl
  ·exact (init_kind ps (n + 1) z.2 t htl (by omega)).up htl (by simp [initEnv, Env.set, h]) (fun i hi hi2 hi3 => by simp [initEnv, Env.set])
 | .tip T :: ps, n, z, t, htl, hl => by
  simp only [List.length_cons] at hl
  by_cases h : t = n
  ·subst h
   cases T <;> first | (left; simp only [initEnv, Env.set, if_true]; rfl) | exact (init_kind ps (t + 1) z.2 t htl (by omega)).up htl (by simp [initEnv]) (fun i hi hi2 hi3 => by simp [initEnv])
  ·exact (init_kind ps (n + 1) z.2 t htl (by omega)).up htl (by cases T <;> simp [initEnv, Env.set, h]) (fun i hi hi2 hi3 => by cases T <;> simp [initEnv, Env.set])
 | .take el r :: ps, n, z, t, htl, hl => by
  simp only [List.length_cons] at hl
  by_cases h : t = n
  ·subst h
   exact .inr (.inr ⟨t, by simp [initEnv, Env.set], .inr ⟨rfl, by omega⟩, el, r, z.1, by simp [initEnv, Env.set], Nat.le_refl _⟩)
  ·exact (init_kind ps (n + 1) z.2 t htl (by omega)).up htl (by simp [initEnv, Env.set, h]) (fun i hi hi2 hi3 => by simp [initEnv, Env.set, hi2])
 | .own el r :: ps, n, z, t, htl, hl => by
  simp only [List.length_cons] at hl
  by_cases h : t = n
  ·subst h
   exact .inr (.inr ⟨1000000 + t, by simp [initEnv, Env.set], .inl rfl, el, r, z.1, by simp [initEnv, Env.set], Nat.le_refl _⟩)
  ·exact (init_kind ps (n + 1) z.2 t htl (by omega)).up htl (by simp [initEnv, Env.set, h]) (fun i hi hi2 hi3 => by simp [initEnv, Env.set, hi])
 | .box B T :: ps, n, z, t, htl, hl => by
  simp only [List.length_cons] at hl
  by_cases h : t = n
  ·subst h
   exact .inr (.inl ⟨1000000 + t, 0, by simp [initEnv, Env.set]⟩)
  ·exact (init_kind ps (n + 1) z.2 t htl (by omega)).up htl (by simp [initEnv, Env.set, h, setRows_slot]) (fun i hi hi2 hi3 => by simp [initEnv, Env.set, hi, setRows_low hi3])
theorem init_none : ∀ (ps : List Md) (n : Nat) (z : (tupTy ps).D) (t : Nat), n + ps.length ≤ t → initEnv ps n z (.slot t) = .unk
 | [], _, _, _, _ => rfl
 | m :: ps, n, z, t, h => by
  simp only [List.length_cons] at h
  have ih := init_none ps (n + 1) z.2 t (by omega)
  have hne : ¬ t = n := by omega
  cases m with
  | tip T => cases T <;> simp [initEnv, Env.set, hne, ih]
  | box B T => simp [initEnv, Env.set, hne, ih, setRows_slot]
  | _ => simp [initEnv, Env.set, hne, ih]
theorem init_ptrs (ps : List Md) (z : (tupTy ps).D) (g : Gh) (t : Nat) (v : Value) (hl : 0 + ps.length ≤ 1000000) (hv : t < 1000000 → (g.bx (1000000 + t)).h = v) (hv2 : t < 1000000 → (g.bx t).h = v) : PtrOk (initEnv ps 0 z) g (initEnv ps 0 z (.slot t)) v := by
 by_cases htl : t < 1000000
 rotate_left
 ·rw [init_none ps 0 z t (by omega)]; trivial
 rcases init_kind ps 0 z t htl hl with h | ⟨i, lo, h⟩ | ⟨j, h, hj, el, r, xs, hb, _⟩
 ·exact not_ptr h _
 ·rw [h]; exact init_ptr ps 0 z t i lo hl h
 ·rw [h]
  show HOk (initEnv ps 0 z (.box j)) (g.bx j) 0 v
  rw [hb]
  exact ⟨Nat.le_refl _, fun _ => by rcases hj with rfl | ⟨rfl, hj⟩; { exact (hv htl).symm }; { exact (hv2 hj).symm }⟩
def EndVals (G : Ctx) : (rs : List Md) → List ResultVar → Env → (tupTy rs).D → Prop
 | [], [], _, _ => True
 | m :: rs, t :: ts, e, x => endOne G m e t = some x.1 ∧ EndVals G rs ts e x.2
 | _, _, _, _ => False
theorem endAll_split {G : Ctx} : ∀ (rs ps : List Md) (l : List ResultVar) (e : Env) (r : (tupTy (rs ++ ps.filter Md.isBox)).D), endAll G rs ps l e = some r →
  EndVals G rs l e (splitR rs (ps.filter Md.isBox) r).1 ∧ endBoxes ps 0 e = some (splitR rs (ps.filter Md.isBox) r).2
 | [], ps, [], e, r, h => ⟨trivial, h⟩
 | [], ps, _ :: _, e, r, h => by simp [endAll] at h
 | m :: rs, ps, [], e, r, h => by simp [endAll] at h
 | m :: rs, ps, v :: l, e, r, h => by
  simp only [endAll] at h
  split at h
  ·rename_i x hx
   split at h
   ·rename_i y hy
    injection h with h
    subst h
    obtain ⟨h2, h3⟩ := endAll_split rs ps l e y hy
    exact ⟨⟨hx, h2⟩, h3⟩
   ·cases h
  ·cases h
end
end Go.PM
