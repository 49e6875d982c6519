/- PM: a function's call, sound. -/
import Derived.Test.YtibkgmpfncacpaaPMRun
namespace Go.PM
open Go

def packVal : List Value → Value
  | [v] => v
  | vs => .tuple vs.toArray

/-- What each result comes to. -/
def OnesTo (P : Program) (W : World) (tmps : Array Value) : List ResultVar → List Value → Prop
  | [], [] => True
  | .tmp t :: l, v :: vs => v = tmps.getD t undef ∧ OnesTo P W tmps l vs
  | .cell a T :: l, v :: vs => (∃ ad, tmps.getD a undef = .pointer (some ad) ∧ (loadVar T ad).run P W = .ok v W) ∧ OnesTo P W tmps l vs
  | _, _ => False

theorem results_run {fn : Func} {vs : List Value} {tmps : Array Value} {P : Program} {w : World} (h : OnesTo P w tmps fn.results.toList vs) : (results fn tmps).run P w = .ok (packVal vs) w := by
  have key : ∀ (f : ResultVar → Sem Value), (∀ t, f (.tmp t) = pure (tmps.getD t undef)) → (∀ a T, f (.cell a T) = do loadVar T (← asAddr (tmps.getD a undef))) →
      ∀ (l : List ResultVar) (vs : List Value), OnesTo P w tmps l vs → (l.mapM f).run P w = .ok vs w := by
    intro f h1 h2 l
    induction l with
    | nil => intro vs h; cases vs with
      | nil => simp
      | cons => exact h.elim
    | cons x l ih =>
      intro vs h
      cases vs with
      | nil => cases x <;> exact h.elim
      | cons v vs =>
        rw [List.mapM_cons]
        cases x with
        | tmp t =>
          obtain ⟨rfl, h⟩ := h
          simp only [h1, Sem.run_bind, Sem.run_pure, Result.andThen_ok, ih vs h]
        | cell a T =>
          obtain ⟨⟨ad, ha, hl⟩, h⟩ := h
          simp only [h2, ha, asAddr, pure_bind, Sem.run_bind, Sem.run_pure, Result.andThen_ok, hl, ih vs h]
  unfold results
  have hr : fn.results = fn.results.toList.toArray := rfl
  rw [hr, List.mapM_toArray]
  simp only [map_eq_pure_bind, bind_assoc, pure_bind, Sem.run_bind]
  rw [key _ (fun t => rfl) (fun a T => rfl) _ vs h]
  simp only [Result.andThen_ok, Sem.run_pure]
  match vs with
  | [] => simp [packVal]
  | [t] => simp [packVal]
  | t1 :: t2 :: ts => simp [packVal]

section
variable {P : Program} {G : Ctx}

/-- At the beginning: each slot holds its argument. -/
theorem init_slots {g : Gh} {W : World} {own : Nat → Option Lab} {val : Nat → Value} {PS : List Md}
    (hst : ∀ i b t, PS[i]? = some (.tip t) → own b = some (.arg i) → g.own b = some (.slot i))
    (hbx : ∀ i B, val i = .pointer (some ⟨B, 0, none⟩) → g.bx (1000000 + i) = B) :
    ∀ (ps : List Md) (n : Nat) (z : (tupTy ps).D) (vs : List Value), ArgsRep g.fix own W n ps z vs → (∀ j, PS[n + j]? = ps[j]?) → (∀ j v, vs[j]? = some v → val (n + j) = v) →
      ∀ t, SRep g W t (initEnv ps n z (.slot t)) (val t)
  | [], _, _, _, _, _, _, t => trivial
  | .val T :: ps, n, z, [], h, _, _, _ => h.elim
  | .tip T :: ps, n, z, [], h, _, _, _ => h.elim
  | .box _ T :: ps, n, z, [], h, _, _, _ => h.elim
  | .nilp :: ps, n, z, [], h, _, _, _ => h.elim
  | .cap _ :: ps, n, z, [], h, _, _, _ => h.elim
  | .full _ _ :: ps, n, z, [], h, _, _, _ => h.elim
  | .val T :: ps, n, z, v :: vs, h, hp, hv, t => by
    have ih := init_slots hst hbx ps (n + 1) z.2 vs h.2 (fun j => by simpa [Nat.add_assoc, Nat.add_comm 1] using hp (j + 1)) (fun j v hj => by simpa [Nat.add_assoc, Nat.add_comm 1] using hv (j + 1) v (by simpa using hj)) t
    simp only [initEnv, Env.set, Place.slot.injEq]
    split
    · rename_i he
      subst he
      have h0 := hv 0 v rfl
      rw [Nat.add_zero] at h0
      rw [h0]
      have := (of_dat h.1).slot t
      rwa [of_clear] at this
    · exact ih
  | .nilp :: ps, n, z, v :: vs, h, hp, hv, t => by
    have ih := init_slots hst hbx ps (n + 1) z.2 vs h.2 (fun j => by simpa [Nat.add_assoc, Nat.add_comm 1] using hp (j + 1)) (fun j v hj => by simpa [Nat.add_assoc, Nat.add_comm 1] using hv (j + 1) v (by simpa using hj)) t
    simp only [initEnv, Env.set, Place.slot.injEq]
    split
    · rename_i he
      subst he
      have h0 := hv 0 v rfl
      rw [Nat.add_zero] at h0
      rw [h0]
      exact h.1
    · exact ih
  | .cap T :: ps, n, z, v :: vs, h, hp, hv, t => by
    have ih := init_slots hst hbx ps (n + 1) z.2 vs h.2 (fun j => by simpa [Nat.add_assoc, Nat.add_comm 1] using hp (j + 1)) (fun j v hj => by simpa [Nat.add_assoc, Nat.add_comm 1] using hv (j + 1) v (by simpa using hj)) t
    simp only [initEnv, Env.set, Place.slot.injEq]
    split
    · rename_i he
      subst he
      have h0 := hv 0 v rfl
      rw [Nat.add_zero] at h0
      rw [h0]
      obtain ⟨ad, h1, h2, ci, h3, h4⟩ := h.1
      refine ⟨ad, h1, h2, fun j d hj => ?_⟩
      obtain ⟨u, hu, hr⟩ := (Cells.split _ _ _ h3).get j d hj
      exact ⟨u, hr, h4 j u hu⟩
    · exact ih
  | .full T b :: ps, n, z, v :: vs, h, hp, hv, t => by
    have ih := init_slots hst hbx ps (n + 1) z.2 vs h.2 (fun j => by simpa [Nat.add_assoc, Nat.add_comm 1] using hp (j + 1)) (fun j v hj => by simpa [Nat.add_assoc, Nat.add_comm 1] using hv (j + 1) v (by simpa using hj)) t
    simp only [initEnv, Env.set, Place.slot.injEq]
    split
    · rename_i he
      subst he
      have h0 := hv 0 v rfl
      rw [Nat.add_zero] at h0
      rw [h0]
      exact h.1
    · exact ih
  | .tip T :: ps, n, z, v :: vs, h, hp, hv, t => by
    have ih := init_slots hst hbx ps (n + 1) z.2 vs h.2 (fun j => by simpa [Nat.add_assoc, Nat.add_comm 1] using hp (j + 1)) (fun j v hj => by simpa [Nat.add_assoc, Nat.add_comm 1] using hv (j + 1) v (by simpa using hj)) t
    cases T with
    | sl el r =>
      simp only [initEnv, Env.set, Place.slot.injEq]
      split
      · rename_i he
        subst he
        have h0 := hv 0 v rfl
        rw [Nat.add_zero] at h0
        rw [h0]
        refine ⟨h.1.1, h.1.2.1, fun _ => ?_⟩
        have ht := h.1.2.2
        simp only [Tip] at ht ⊢
        rcases ht with ht | ⟨b, m, cap, cur, h1, h2, h3, h4, h5, h6, h7⟩
        · exact .inl ht
        · exact .inr ⟨b, m, cap, cur, h1, h2, h3, h4, h5, hst _ _ _ (by simpa using hp 0) h6, h7⟩
      · exact ih
    | _ => exact ih
  | .box B T :: ps, n, z, v :: vs, h, hp, hv, t => by
    have ih := init_slots hst hbx ps (n + 1) z.2 vs h.2 (fun j => by simpa [Nat.add_assoc, Nat.add_comm 1] using hp (j + 1)) (fun j v hj => by simpa [Nat.add_assoc, Nat.add_comm 1] using hv (j + 1) v (by simpa using hj)) t
    simp only [initEnv, Env.set, Place.slot.injEq, reduceCtorEq, if_false]
    split
    · rename_i he
      subst he
      have h0 := hv 0 v rfl
      rw [Nat.add_zero] at h0
      obtain ⟨Bk, us, h1, -⟩ := h.1
      show _ = _
      rw [h0, h1, hbx t Bk (by rw [h0, h1])]
    · exact ih

theorem init_boxes {g : Gh} {W : World} {own : Nat → Option Lab} {val : Nat → Value} {PS : List Md}
    (hst : ∀ i b B t, PS[i]? = some (.box B t) → own b = some (.arg i) → g.own b = some (.box (1000000 + i)))
    (hbx : ∀ i B, val i = .pointer (some ⟨B, 0, none⟩) → g.bx (1000000 + i) = B) :
    ∀ (ps : List Md) (n : Nat) (z : (tupTy ps).D) (vs : List Value), ArgsRep g.fix own W n ps z vs → (∀ j, PS[n + j]? = ps[j]?) → (∀ j v, vs[j]? = some v → val (n + j) = v) →
      ∀ i, BRep g W i (initEnv ps n z (.box i))
  | [], _, _, _, _, _, _, t => trivial
  | .val T :: ps, n, z, [], h, _, _, _ => h.elim
  | .tip T :: ps, n, z, [], h, _, _, _ => h.elim
  | .box _ T :: ps, n, z, [], h, _, _, _ => h.elim
  | .nilp :: ps, n, z, [], h, _, _, _ => h.elim
  | .cap _ :: ps, n, z, [], h, _, _, _ => h.elim
  | .full _ _ :: ps, n, z, [], h, _, _, _ => h.elim
  | .val T :: ps, n, z, v :: vs, h, hp, hv, i => by
    have ih := init_boxes hst hbx ps (n + 1) z.2 vs h.2 (fun j => by simpa [Nat.add_assoc, Nat.add_comm 1] using hp (j + 1)) (fun j v hj => by simpa [Nat.add_assoc, Nat.add_comm 1] using hv (j + 1) v (by simpa using hj)) i
    simpa [initEnv, Env.set] using ih
  | .nilp :: ps, n, z, v :: vs, h, hp, hv, i => by
    have ih := init_boxes hst hbx ps (n + 1) z.2 vs h.2 (fun j => by simpa [Nat.add_assoc, Nat.add_comm 1] using hp (j + 1)) (fun j v hj => by simpa [Nat.add_assoc, Nat.add_comm 1] using hv (j + 1) v (by simpa using hj)) i
    simpa [initEnv, Env.set] using ih
  | .cap T :: ps, n, z, v :: vs, h, hp, hv, i => by
    have ih := init_boxes hst hbx ps (n + 1) z.2 vs h.2 (fun j => by simpa [Nat.add_assoc, Nat.add_comm 1] using hp (j + 1)) (fun j v hj => by simpa [Nat.add_assoc, Nat.add_comm 1] using hv (j + 1) v (by simpa using hj)) i
    simpa [initEnv, Env.set] using ih
  | .full T b :: ps, n, z, v :: vs, h, hp, hv, i => by
    have ih := init_boxes hst hbx ps (n + 1) z.2 vs h.2 (fun j => by simpa [Nat.add_assoc, Nat.add_comm 1] using hp (j + 1)) (fun j v hj => by simpa [Nat.add_assoc, Nat.add_comm 1] using hv (j + 1) v (by simpa using hj)) i
    simpa [initEnv, Env.set] using ih
  | .tip T :: ps, n, z, v :: vs, h, hp, hv, i => by
    have ih := init_boxes hst hbx ps (n + 1) z.2 vs h.2 (fun j => by simpa [Nat.add_assoc, Nat.add_comm 1] using hp (j + 1)) (fun j v hj => by simpa [Nat.add_assoc, Nat.add_comm 1] using hv (j + 1) v (by simpa using hj)) i
    cases T <;> simpa [initEnv, Env.set] using ih
  | .box B T :: ps, n, z, v :: vs, h, hp, hv, i => by
    have ih := init_boxes hst hbx ps (n + 1) z.2 vs h.2 (fun j => by simpa [Nat.add_assoc, Nat.add_comm 1] using hp (j + 1)) (fun j v hj => by simpa [Nat.add_assoc, Nat.add_comm 1] using hv (j + 1) v (by simpa using hj)) i
    simp only [initEnv, Env.set, Place.box.injEq, reduceCtorEq, if_false]
    split
    · rename_i he
      subst he
      obtain ⟨Bk, us, h1, h2, h3, h4, h5⟩ := h.1
      have h0 := hv 0 v rfl
      rw [Nat.add_zero] at h0
      have hb : g.bx (1000000 + n) = Bk := hbx n Bk (by rw [h0, h1])
      refine ⟨us, by rw [hb]; exact h2, by rw [hb]; exact hst n Bk B T (by simpa using hp 0) h3, by rw [hb]; exact h4, Cells.split _ _ _ h5, fun j d hd ht => ?_⟩
      have := split_tips T z.1 d (List.mem_of_getElem? hd)
      rw [this] at ht; cases ht
    · exact ih

theorem init_ptr : ∀ (ps : List Md) (n : Nat) (z : (tupTy ps).D) (t i lo : Nat), initEnv ps n z (.slot t) = .bptr i lo → (initEnv ps n z (.box i)).isBox = true
  | [], _, _, _, _, _, h => by cases h
  | .val T :: ps, n, z, t, i, lo, h => by
    simp only [initEnv, Env.set, Place.slot.injEq, reduceCtorEq, if_false] at h ⊢
    split at h
    · cases T <;> simp [PV.of] at h
    · exact init_ptr ps (n + 1) z.2 t i lo h
  | .nilp :: ps, n, z, t, i, lo, h => by
    simp only [initEnv, Env.set, Place.slot.injEq, reduceCtorEq, if_false] at h ⊢
    split at h
    · cases h
    · exact init_ptr ps (n + 1) z.2 t i lo h
  | .cap T :: ps, n, z, t, i, lo, h => by
    simp only [initEnv, Env.set, Place.slot.injEq, reduceCtorEq, if_false] at h ⊢
    split at h
    · cases h
    · exact init_ptr ps (n + 1) z.2 t i lo h
  | .full T b :: ps, n, z, t, i, lo, h => by
    simp only [initEnv, Env.set, Place.slot.injEq, reduceCtorEq, if_false] at h ⊢
    split at h
    · cases h
    · exact init_ptr ps (n + 1) z.2 t i lo h
  | .tip T :: ps, n, z, t, i, lo, h => by
    cases T <;> simp only [initEnv, Env.set, Place.slot.injEq, reduceCtorEq, if_false] at h ⊢
    case sl =>
      split at h
      · cases h
      · exact init_ptr ps (n + 1) z.2 t i lo h
    all_goals exact init_ptr ps (n + 1) z.2 t i lo h
  | .box B T :: ps, n, z, t, i, lo, h => by
    simp only [initEnv, Env.set, Place.slot.injEq, Place.box.injEq, reduceCtorEq, if_false] at h ⊢
    split
    · rfl
    · rename_i hne
      split at h
      · cases h; exact absurd rfl hne
      · exact init_ptr ps (n + 1) z.2 t i lo h

def EndVals (G : Ctx) : (rs : List Md) → List ResultVar → Env → (tupTy rs).D → Prop
  | [], [], _, _ => True
  | m :: rs, t :: ts, e, x => endOne G m e t = some x.1 ∧ EndVals G rs ts e x.2
  | _, _, _, _ => False

theorem endAll_split {G : Ctx} : ∀ (rs ps : List Md) (l : List ResultVar) (e : Env) (r : (tupTy (rs ++ ps.filter Md.isBox)).D), endAll G rs ps l e = some r →
    EndVals G rs l e (splitR rs (ps.filter Md.isBox) r).1 ∧ endBoxes ps 0 e = some (splitR rs (ps.filter Md.isBox) r).2
  | [], ps, [], e, r, h => ⟨trivial, h⟩
  | [], ps, _ :: _, e, r, h => by simp [endAll] at h
  | m :: rs, ps, [], e, r, h => by simp [endAll] at h
  | m :: rs, ps, v :: l, e, r, h => by
    simp only [endAll] at h
    split at h
    · rename_i x hx
      split at h
      · rename_i y hy
        injection h with h
        subst h
        obtain ⟨h2, h3⟩ := endAll_split rs ps l e y hy
        exact ⟨⟨hx, h2⟩, h3⟩
      · cases h
    · cases h
end

end Go.PM
