/- PM: a function's call, sound. -/
import Derived.Test.YtjgocfgkmcopgaaPMRun
namespace Go.PM
open Go

def packVal : List Value → Value
  | [v] => v
  | vs => .tuple vs.toArray

/-- What each result comes to. -/
def OnesTo (P : Program) (W : World) (tmps : Array Value) : List ResultVar → List Value → Prop
  | [], [] => True
  | .tmp t :: l, v :: vs => v = tmps.getD t undef ∧ OnesTo P W tmps l vs
  | .cell a T :: l, v :: vs => (∃ ad, tmps.getD a undef = .pointer (some ad) ∧ (loadVar T ad).run P W = .ok v W) ∧ OnesTo P W tmps l vs
  | _, _ => False

theorem results_run {fn : Func} {vs : List Value} {tmps : Array Value} {P : Program} {w : World} (h : OnesTo P w tmps fn.results.toList vs) : (results fn tmps).run P w = .ok (packVal vs) w := by
  have key : ∀ (f : ResultVar → Sem Value), (∀ t, f (.tmp t) = pure (tmps.getD t undef)) → (∀ a T, f (.cell a T) = do loadVar T (← asAddr (tmps.getD a undef))) →
      ∀ (l : List ResultVar) (vs : List Value), OnesTo P w tmps l vs → (l.mapM f).run P w = .ok vs w := by
    intro f h1 h2 l
    induction l with
    | nil => intro vs h; cases vs with
      | nil => simp
      | cons => exact h.elim
    | cons x l ih =>
      intro vs h
      cases vs with
      | nil => cases x <;> exact h.elim
      | cons v vs =>
        rw [List.mapM_cons]
        cases x with
        | tmp t =>
          obtain ⟨rfl, h⟩ := h
          simp only [h1, Sem.run_bind, Sem.run_pure, Result.andThen_ok, ih vs h]
        | cell a T =>
          obtain ⟨⟨ad, ha, hl⟩, h⟩ := h
          simp only [h2, ha, asAddr, pure_bind, Sem.run_bind, Sem.run_pure, Result.andThen_ok, hl, ih vs h]
  unfold results
  have hr : fn.results = fn.results.toList.toArray := rfl
  rw [hr, List.mapM_toArray]
  simp only [map_eq_pure_bind, bind_assoc, pure_bind, Sem.run_bind]
  rw [key _ (fun t => rfl) (fun a T => rfl) _ vs h]
  simp only [Result.andThen_ok, Sem.run_pure]
  match vs with
  | [] => simp [packVal]
  | [t] => simp [packVal]
  | t1 :: t2 :: ts => simp [packVal]

section
variable {P : Program} {G : Ctx}

/-- At the beginning: each slot holds its argument. -/
theorem init_slots {g : Gh} {W : World} {own : Nat → Option Lab} {val : Nat → Value} {PS : List Md}
    (hst : ∀ i b t, PS[i]? = some (.tip t) → own b = some (.arg i) → g.own b = some (.slot i))
    (hbx : ∀ i B, val i = .pointer (some ⟨B, 0, none⟩) → (g.bx (1000000 + i)).b = B) :
    ∀ (ps : List Md) (n : Nat) (z : (tupTy ps).D) (vs : List Value), ArgsRep g.fix own W n ps z vs → (∀ j, PS[n + j]? = ps[j]?) → (∀ j v, vs[j]? = some v → val (n + j) = v) →
      ∀ t, SRep g W t (initEnv ps n z (.slot t)) (val t)
  | [], _, _, _, _, _, _, t => trivial
  | .val T :: ps, n, z, [], h, _, _, _ => h.elim
  | .tip T :: ps, n, z, [], h, _, _, _ => h.elim
  | .box _ T :: ps, n, z, [], h, _, _, _ => h.elim
  | .nilp :: ps, n, z, [], h, _, _, _ => h.elim
  | .cap _ :: ps, n, z, [], h, _, _, _ => h.elim
  | .full _ _ :: ps, n, z, [], h, _, _, _ => h.elim
  | .own _ _ :: _, n, z, [], h, _, _, _ => h.elim
  | .take _ _ :: _, n, z, [], h, _, _, _ => h.elim
  | .take el r :: ps, n, z, v :: vs, h, hp, hv, t => by
    have ih := init_slots hst hbx ps (n + 1) z.2 vs h.2 (fun j => by simpa [Nat.add_assoc, Nat.add_comm 1] using hp (j + 1)) (fun j v hj => by simpa [Nat.add_assoc, Nat.add_comm 1] using hv (j + 1) v (by simpa using hj)) t
    simp only [initEnv, Env.set, Place.slot.injEq, reduceCtorEq, if_false]
    split
    · trivial
    · exact ih
  | .own el r :: ps, n, z, v :: vs, h, hp, hv, t => by
    have ih := init_slots hst hbx ps (n + 1) z.2 vs h.2 (fun j => by simpa [Nat.add_assoc, Nat.add_comm 1] using hp (j + 1)) (fun j v hj => by simpa [Nat.add_assoc, Nat.add_comm 1] using hv (j + 1) v (by simpa using hj)) t
    simp only [initEnv, Env.set, Place.slot.injEq, reduceCtorEq, if_false]
    split
    · trivial
    · exact ih
  | .val T :: ps, n, z, v :: vs, h, hp, hv, t => by
    have ih := init_slots hst hbx ps (n + 1) z.2 vs h.2 (fun j => by simpa [Nat.add_assoc, Nat.add_comm 1] using hp (j + 1)) (fun j v hj => by simpa [Nat.add_assoc, Nat.add_comm 1] using hv (j + 1) v (by simpa using hj)) t
    simp only [initEnv, Env.set, Place.slot.injEq]
    split
    · rename_i he
      subst he
      have h0 := hv 0 v rfl
      rw [Nat.add_zero] at h0
      rw [h0]
      have := (of_dat h.1).slot t
      rwa [of_clear] at this
    · exact ih
  | .nilp :: ps, n, z, v :: vs, h, hp, hv, t => by
    have ih := init_slots hst hbx ps (n + 1) z.2 vs h.2 (fun j => by simpa [Nat.add_assoc, Nat.add_comm 1] using hp (j + 1)) (fun j v hj => by simpa [Nat.add_assoc, Nat.add_comm 1] using hv (j + 1) v (by simpa using hj)) t
    simp only [initEnv, Env.set, Place.slot.injEq]
    split
    · rename_i he
      subst he
      have h0 := hv 0 v rfl
      rw [Nat.add_zero] at h0
      rw [h0]
      exact h.1
    · exact ih
  | .cap T :: ps, n, z, v :: vs, h, hp, hv, t => by
    have ih := init_slots hst hbx ps (n + 1) z.2 vs h.2 (fun j => by simpa [Nat.add_assoc, Nat.add_comm 1] using hp (j + 1)) (fun j v hj => by simpa [Nat.add_assoc, Nat.add_comm 1] using hv (j + 1) v (by simpa using hj)) t
    simp only [initEnv, Env.set, Place.slot.injEq]
    split
    · rename_i he
      subst he
      have h0 := hv 0 v rfl
      rw [Nat.add_zero] at h0
      rw [h0]
      obtain ⟨ad, h1, h2, ci, h3, h4⟩ := h.1
      refine ⟨ad, h1, h2, fun j d hj => ?_⟩
      obtain ⟨u, hu, hr⟩ := (Cells.split _ _ _ h3).get j d hj
      exact ⟨u, hr, h4 j u hu⟩
    · exact ih
  | .full T b :: ps, n, z, v :: vs, h, hp, hv, t => by
    have ih := init_slots hst hbx ps (n + 1) z.2 vs h.2 (fun j => by simpa [Nat.add_assoc, Nat.add_comm 1] using hp (j + 1)) (fun j v hj => by simpa [Nat.add_assoc, Nat.add_comm 1] using hv (j + 1) v (by simpa using hj)) t
    simp only [initEnv, Env.set, Place.slot.injEq]
    split
    · rename_i he
      subst he
      have h0 := hv 0 v rfl
      rw [Nat.add_zero] at h0
      rw [h0]
      exact h.1
    · exact ih
  | .tip T :: ps, n, z, v :: vs, h, hp, hv, t => by
    have ih := init_slots hst hbx ps (n + 1) z.2 vs h.2 (fun j => by simpa [Nat.add_assoc, Nat.add_comm 1] using hp (j + 1)) (fun j v hj => by simpa [Nat.add_assoc, Nat.add_comm 1] using hv (j + 1) v (by simpa using hj)) t
    cases T with
    | sl el r =>
      simp only [initEnv, Env.set, Place.slot.injEq]
      split
      · rename_i he
        subst he
        have h0 := hv 0 v rfl
        rw [Nat.add_zero] at h0
        rw [h0]
        refine ⟨h.1.1, h.1.2.1, fun _ => ?_⟩
        have ht := h.1.2.2
        simp only [Tip] at ht ⊢
        rcases ht with ht | ⟨b, m, cap, cur, h1, h2, h3, h4, h5, h6, h7⟩
        · exact .inl ht
        · exact .inr ⟨b, m, cap, cur, h1, h2, h3, h4, h5, hst _ _ _ (by simpa using hp 0) h6, h7⟩
      · exact ih
    | _ => exact ih
  | .box B T :: ps, n, z, v :: vs, h, hp, hv, t => by
    have ih := init_slots hst hbx ps (n + 1) z.2 vs h.2 (fun j => by simpa [Nat.add_assoc, Nat.add_comm 1] using hp (j + 1)) (fun j v hj => by simpa [Nat.add_assoc, Nat.add_comm 1] using hv (j + 1) v (by simpa using hj)) t
    simp only [initEnv, Env.set, Place.slot.injEq, reduceCtorEq, if_false]
    split
    · rename_i he
      subst he
      have h0 := hv 0 v rfl
      rw [Nat.add_zero] at h0
      obtain ⟨Bk, us, h1, -⟩ := h.1
      show _ = _
      rw [h0, h1, hbx t Bk (by rw [h0, h1])]
    · exact ih

theorem init_boxes {g : Gh} {W : World} {own : Nat → Option Lab} {val : Nat → Value} {PS : List Md}
    (hst : ∀ i b m, PS[i]? = some m → m.isBox = true → own b = some (.arg i) → g.own b = some (.box (1000000 + i)))
    (hsk : ∀ i b el r, PS[i]? = some (.take el r) → own b = some (.arg i) → g.own b = some (.box i))
    (hbx : ∀ i B, val i = .pointer (some ⟨B, 0, none⟩) → (g.bx (1000000 + i)).b = B) (hbh : ∀ i, (g.bx (1000000 + i)).h = val i) (hbk : ∀ i el r, PS[i]? = some (.take el r) → (g.bx i).h = val i) (hfl : ∀ (i : Nat) (m : Md), PS[i]? = some m → m.flat = true) :
    ∀ (ps : List Md) (n : Nat) (z : (tupTy ps).D) (vs : List Value), ArgsRep g.fix own W n ps z vs → (∀ j, PS[n + j]? = ps[j]?) → (∀ j v, vs[j]? = some v → val (n + j) = v) →
      ∀ i, BRep g W i (initEnv ps n z (.box i))
  | [], _, _, _, _, _, _, t => trivial
  | .val T :: ps, n, z, [], h, _, _, _ => h.elim
  | .tip T :: ps, n, z, [], h, _, _, _ => h.elim
  | .box _ T :: ps, n, z, [], h, _, _, _ => h.elim
  | .nilp :: ps, n, z, [], h, _, _, _ => h.elim
  | .cap _ :: ps, n, z, [], h, _, _, _ => h.elim
  | .full _ _ :: ps, n, z, [], h, _, _, _ => h.elim
  | .own _ _ :: _, n, z, [], h, _, _, _ => h.elim
  | .take _ _ :: _, n, z, [], h, _, _, _ => h.elim
  | .take el r :: ps, n, z, v :: vs, h, hp, hv, i => by
    have ih := init_boxes hst hsk hbx hbh hbk hfl ps (n + 1) z.2 vs h.2 (fun j => by simpa [Nat.add_assoc, Nat.add_comm 1] using hp (j + 1)) (fun j v hj => by simpa [Nat.add_assoc, Nat.add_comm 1] using hv (j + 1) v (by simpa using hj)) i
    simp only [initEnv, Env.set, Place.box.injEq, reduceCtorEq, if_false]
    split
    · rename_i he
      subst he
      have h0 := hv 0 v rfl
      rw [Nat.add_zero] at h0
      refine ⟨?_, .plain (hfl i (.take el r) (by simpa using hp 0))⟩
      show RowAt g.fix g.own W (.box i) (g.bx i).h el r z.1
      rw [hbk i el r (by simpa using hp 0), h0]
      obtain ⟨A, c, k1, k2, k3⟩ := h.1
      exact ⟨A, c, k1, k2, k3.imp id fun ⟨b, off, cur, cs, m1, m2, m3, m4⟩ => ⟨b, off, cur, cs, m1, m2, hsk i b el r (by simpa using hp 0) m3, m4⟩⟩
    · exact ih
  | .own el r :: ps, n, z, v :: vs, h, hp, hv, i => by
    have ih := init_boxes hst hsk hbx hbh hbk hfl ps (n + 1) z.2 vs h.2 (fun j => by simpa [Nat.add_assoc, Nat.add_comm 1] using hp (j + 1)) (fun j v hj => by simpa [Nat.add_assoc, Nat.add_comm 1] using hv (j + 1) v (by simpa using hj)) i
    simp only [initEnv, Env.set, Place.box.injEq, reduceCtorEq, if_false]
    split
    · rename_i he
      subst he
      have h0 := hv 0 v rfl
      rw [Nat.add_zero] at h0
      refine ⟨?_, .plain (hfl n (.own el r) (by simpa using hp 0))⟩
      show RowAt g.fix g.own W (.box (1000000 + n)) (g.bx (1000000 + n)).h el r z.1
      rw [hbh, h0]
      obtain ⟨A, c, k1, k2, k3⟩ := h.1
      exact ⟨A, c, k1, k2, k3.imp id fun ⟨b, off, cur, cs, m1, m2, m3, m4⟩ => ⟨b, off, cur, cs, m1, m2, hst n b (.own el r) (by simpa using hp 0) rfl m3, m4⟩⟩
    · exact ih
  | .val T :: ps, n, z, v :: vs, h, hp, hv, i => by
    have ih := init_boxes hst hsk hbx hbh hbk hfl ps (n + 1) z.2 vs h.2 (fun j => by simpa [Nat.add_assoc, Nat.add_comm 1] using hp (j + 1)) (fun j v hj => by simpa [Nat.add_assoc, Nat.add_comm 1] using hv (j + 1) v (by simpa using hj)) i
    simpa [initEnv, Env.set] using ih
  | .nilp :: ps, n, z, v :: vs, h, hp, hv, i => by
    have ih := init_boxes hst hsk hbx hbh hbk hfl ps (n + 1) z.2 vs h.2 (fun j => by simpa [Nat.add_assoc, Nat.add_comm 1] using hp (j + 1)) (fun j v hj => by simpa [Nat.add_assoc, Nat.add_comm 1] using hv (j + 1) v (by simpa using hj)) i
    simpa [initEnv, Env.set] using ih
  | .cap T :: ps, n, z, v :: vs, h, hp, hv, i => by
    have ih := init_boxes hst hsk hbx hbh hbk hfl ps (n + 1) z.2 vs h.2 (fun j => by simpa [Nat.add_assoc, Nat.add_comm 1] using hp (j + 1)) (fun j v hj => by simpa [Nat.add_assoc, Nat.add_comm 1] using hv (j + 1) v (by simpa using hj)) i
    simpa [initEnv, Env.set] using ih
  | .full T b :: ps, n, z, v :: vs, h, hp, hv, i => by
    have ih := init_boxes hst hsk hbx hbh hbk hfl ps (n + 1) z.2 vs h.2 (fun j => by simpa [Nat.add_assoc, Nat.add_comm 1] using hp (j + 1)) (fun j v hj => by simpa [Nat.add_assoc, Nat.add_comm 1] using hv (j + 1) v (by simpa using hj)) i
    simpa [initEnv, Env.set] using ih
  | .tip T :: ps, n, z, v :: vs, h, hp, hv, i => by
    have ih := init_boxes hst hsk hbx hbh hbk hfl ps (n + 1) z.2 vs h.2 (fun j => by simpa [Nat.add_assoc, Nat.add_comm 1] using hp (j + 1)) (fun j v hj => by simpa [Nat.add_assoc, Nat.add_comm 1] using hv (j + 1) v (by simpa using hj)) i
    cases T <;> simpa [initEnv, Env.set] using ih
  | .box B T :: ps, n, z, v :: vs, h, hp, hv, i => by
    have ih := init_boxes hst hsk hbx hbh hbk hfl ps (n + 1) z.2 vs h.2 (fun j => by simpa [Nat.add_assoc, Nat.add_comm 1] using hp (j + 1)) (fun j v hj => by simpa [Nat.add_assoc, Nat.add_comm 1] using hv (j + 1) v (by simpa using hj)) i
    simp only [initEnv, Env.set, Place.box.injEq, reduceCtorEq, if_false]
    split
    · rename_i he
      subst he
      obtain ⟨Bk, us, h1, h2, h3, h4, h5⟩ := h.1
      have h0 := hv 0 v rfl
      rw [Nat.add_zero] at h0
      have hb : (g.bx (1000000 + n)).b = Bk := hbx n Bk (by rw [h0, h1])
      refine ⟨us, by rw [hb]; exact h2, by rw [hb]; exact hst n Bk (.box B T) (by simpa using hp 0) rfl h3, by rw [hb]; exact h4, Cells.split _ _ _ h5, fun j d hd ht => ?_⟩
      have := split_tips T z.1 d (List.mem_of_getElem? hd)
      rw [this] at ht; cases ht
    · exact ih

theorem init_at : ∀ (ps : List Md) (n : Nat) (z : (tupTy ps).D) (t i lo : Nat), initEnv ps n z (.slot t) = .bptr i lo → 1000000 + n ≤ i
  | [], _, _, _, _, _, h => by cases h
  | .val T :: ps, n, z, t, i, lo, h => by
    simp only [initEnv, Env.set, Place.slot.injEq] at h
    split at h
    · cases T <;> simp [PV.of] at h
    · have := init_at ps (n + 1) z.2 t i lo h; omega
  | .nilp :: ps, n, z, t, i, lo, h => by
    simp only [initEnv, Env.set, Place.slot.injEq] at h
    split at h
    · cases h
    · have := init_at ps (n + 1) z.2 t i lo h; omega
  | .cap T :: ps, n, z, t, i, lo, h => by
    simp only [initEnv, Env.set, Place.slot.injEq] at h
    split at h
    · cases h
    · have := init_at ps (n + 1) z.2 t i lo h; omega
  | .full T b :: ps, n, z, t, i, lo, h => by
    simp only [initEnv, Env.set, Place.slot.injEq] at h
    split at h
    · cases h
    · have := init_at ps (n + 1) z.2 t i lo h; omega
  | .take el r :: ps, n, z, t, i, lo, h => by
    simp only [initEnv, Env.set, Place.slot.injEq, reduceCtorEq, if_false] at h
    split at h
    · cases h
    · have := init_at ps (n + 1) z.2 t i lo h; omega
  | .own el r :: ps, n, z, t, i, lo, h => by
    simp only [initEnv, Env.set, Place.slot.injEq, reduceCtorEq, if_false] at h
    split at h
    · cases h
    · have := init_at ps (n + 1) z.2 t i lo h; omega
  | .tip T :: ps, n, z, t, i, lo, h => by
    cases T <;> simp only [initEnv, Env.set, Place.slot.injEq] at h
    case sl =>
      split at h
      · cases h
      · have := init_at ps (n + 1) z.2 t i lo h; omega
    all_goals have := init_at ps (n + 1) z.2 t i lo h; omega
  | .box B T :: ps, n, z, t, i, lo, h => by
    simp only [initEnv, Env.set, Place.slot.injEq, reduceCtorEq, if_false] at h
    split at h
    · injection h with h; omega
    · have := init_at ps (n + 1) z.2 t i lo h; omega

theorem init_ptr : ∀ (ps : List Md) (n : Nat) (z : (tupTy ps).D) (t i lo : Nat), initEnv ps n z (.slot t) = .bptr i lo → (initEnv ps n z (.box i)).isCell = true
  | [], _, _, _, _, _, h => by cases h
  | .val T :: ps, n, z, t, i, lo, h => by
    simp only [initEnv, Env.set, Place.slot.injEq, reduceCtorEq, if_false] at h ⊢
    split at h
    · cases T <;> simp [PV.of] at h
    · exact init_ptr ps (n + 1) z.2 t i lo h
  | .nilp :: ps, n, z, t, i, lo, h => by
    simp only [initEnv, Env.set, Place.slot.injEq, reduceCtorEq, if_false] at h ⊢
    split at h
    · cases h
    · exact init_ptr ps (n + 1) z.2 t i lo h
  | .cap T :: ps, n, z, t, i, lo, h => by
    simp only [initEnv, Env.set, Place.slot.injEq, reduceCtorEq, if_false] at h ⊢
    split at h
    · cases h
    · exact init_ptr ps (n + 1) z.2 t i lo h
  | .take el r :: ps, n, z, t, i, lo, h => by
    simp only [initEnv, Env.set, Place.slot.injEq, Place.box.injEq, reduceCtorEq, if_false] at h ⊢
    split at h
    · cases h
    · have := init_ptr ps (n + 1) z.2 t i lo h
      have hi := init_at ps (n + 1) z.2 t i lo h
      rw [if_neg (by omega)]
      exact this
  | .own el r :: ps, n, z, t, i, lo, h => by
    simp only [initEnv, Env.set, Place.slot.injEq, Place.box.injEq, reduceCtorEq, if_false] at h ⊢
    split at h
    · cases h
    · have := init_ptr ps (n + 1) z.2 t i lo h
      have hi := init_at ps (n + 1) z.2 t i lo h
      rw [if_neg (by omega)]
      exact this
  | .full T b :: ps, n, z, t, i, lo, h => by
    simp only [initEnv, Env.set, Place.slot.injEq, reduceCtorEq, if_false] at h ⊢
    split at h
    · cases h
    · exact init_ptr ps (n + 1) z.2 t i lo h
  | .tip T :: ps, n, z, t, i, lo, h => by
    cases T <;> simp only [initEnv, Env.set, Place.slot.injEq, reduceCtorEq, if_false] at h ⊢
    case sl =>
      split at h
      · cases h
      · exact init_ptr ps (n + 1) z.2 t i lo h
    all_goals exact init_ptr ps (n + 1) z.2 t i lo h
  | .box B T :: ps, n, z, t, i, lo, h => by
    simp only [initEnv, Env.set, Place.slot.injEq, Place.box.injEq, reduceCtorEq, if_false] at h ⊢
    split
    · rfl
    · rename_i hne
      split at h
      · cases h; exact absurd rfl hne
      · exact init_ptr ps (n + 1) z.2 t i lo h

def Kind (n : Nat) (E : Env) (t : Nat) : Prop :=
  (E (.slot t)).at? = none ∨ (∃ i lo, E (.slot t) = .bptr i lo) ∨ (∃ j, E (.slot t) = .hdr j 0 ∧ (j = 1000000 + t ∨ (j = t ∧ t < 1000000)) ∧ ∃ el r xs, E (.box j) = .row el r xs 0 0 ∧ n ≤ t)

theorem Kind.up {n : Nat} {E E' : Env} {t : Nat} (h : Kind (n + 1) E t) (hs : E' (.slot t) = E (.slot t)) (hb : ∀ i, i ≠ 1000000 + n → i ≠ n → E' (.box i) = E (.box i)) : Kind n E' t := by
  unfold Kind at h ⊢
  rw [hs]
  rcases h with h | h | ⟨j, h1, hj, el, r, xs, h2, h3⟩
  · exact .inl h
  · exact .inr (.inl h)
  · exact .inr (.inr ⟨j, h1, hj, el, r, xs, by rw [hb _ (by omega) (by omega)]; exact h2, by omega⟩)

theorem init_kind : ∀ (ps : List Md) (n : Nat) (z : (tupTy ps).D) (t : Nat), n + ps.length ≤ 1000000 → Kind n (initEnv ps n z) t
  | [], _, _, _, _ => .inl rfl
  | .val T :: ps, n, z, t, hl => by
    simp only [List.length_cons] at hl
    by_cases h : t = n
    · subst h; left; simp only [initEnv, Env.set, if_true]; cases T <;> rfl
    · exact (init_kind ps (n + 1) z.2 t (by omega)).up (by simp [initEnv, Env.set, h]) (fun i hi hi2 => by simp [initEnv, Env.set])
  | .nilp :: ps, n, z, t, hl => by
    simp only [List.length_cons] at hl
    by_cases h : t = n
    · subst h; left; simp only [initEnv, Env.set, if_true]; rfl
    · exact (init_kind ps (n + 1) z.2 t (by omega)).up (by simp [initEnv, Env.set, h]) (fun i hi hi2 => by simp [initEnv, Env.set])
  | .cap T :: ps, n, z, t, hl => by
    simp only [List.length_cons] at hl
    by_cases h : t = n
    · subst h; left; simp only [initEnv, Env.set, if_true]; rfl
    · exact (init_kind ps (n + 1) z.2 t (by omega)).up (by simp [initEnv, Env.set, h]) (fun i hi hi2 => by simp [initEnv, Env.set])
  | .full T b :: ps, n, z, t, hl => by
    simp only [List.length_cons] at hl
    by_cases h : t = n
    · subst h; left; simp only [initEnv, Env.set, if_true]; rfl
    · exact (init_kind ps (n + 1) z.2 t (by omega)).up (by simp [initEnv, Env.set, h]) (fun i hi hi2 => by simp [initEnv, Env.set])
  | .tip T :: ps, n, z, t, hl => by
    simp only [List.length_cons] at hl
    by_cases h : t = n
    · subst h
      cases T <;> first | (left; simp only [initEnv, Env.set, if_true]; rfl) | exact (init_kind ps (t + 1) z.2 t (by omega)).up (by simp [initEnv]) (fun i hi hi2 => by simp [initEnv])
    · exact (init_kind ps (n + 1) z.2 t (by omega)).up (by cases T <;> simp [initEnv, Env.set, h]) (fun i hi hi2 => by cases T <;> simp [initEnv, Env.set])
  | .take el r :: ps, n, z, t, hl => by
    simp only [List.length_cons] at hl
    by_cases h : t = n
    · subst h
      exact .inr (.inr ⟨t, by simp [initEnv, Env.set], .inr ⟨rfl, by omega⟩, el, r, z.1, by simp [initEnv, Env.set], Nat.le_refl _⟩)
    · exact (init_kind ps (n + 1) z.2 t (by omega)).up (by simp [initEnv, Env.set, h]) (fun i hi hi2 => by simp [initEnv, Env.set, hi2])
  | .own el r :: ps, n, z, t, hl => by
    simp only [List.length_cons] at hl
    by_cases h : t = n
    · subst h
      exact .inr (.inr ⟨1000000 + t, by simp [initEnv, Env.set], .inl rfl, el, r, z.1, by simp [initEnv, Env.set], Nat.le_refl _⟩)
    · exact (init_kind ps (n + 1) z.2 t (by omega)).up (by simp [initEnv, Env.set, h]) (fun i hi hi2 => by simp [initEnv, Env.set, hi])
  | .box B T :: ps, n, z, t, hl => by
    simp only [List.length_cons] at hl
    by_cases h : t = n
    · subst h
      exact .inr (.inl ⟨1000000 + t, 0, by simp [initEnv, Env.set]⟩)
    · exact (init_kind ps (n + 1) z.2 t (by omega)).up (by simp [initEnv, Env.set, h]) (fun i hi hi2 => by simp [initEnv, Env.set, hi])

theorem init_ptrs (ps : List Md) (z : (tupTy ps).D) (g : Gh) (t : Nat) (v : Value) (hl : 0 + ps.length ≤ 1000000) (hv : (g.bx (1000000 + t)).h = v) (hv2 : t < 1000000 → (g.bx t).h = v) : PtrOk (initEnv ps 0 z) g (initEnv ps 0 z (.slot t)) v := by
  rcases init_kind ps 0 z t hl with h | ⟨i, lo, h⟩ | ⟨j, h, hj, el, r, xs, hb, _⟩
  · exact not_ptr h _
  · rw [h]; exact init_ptr ps 0 z t i lo h
  · rw [h]
    show HOk (initEnv ps 0 z (.box j)) (g.bx j) 0 v
    rw [hb]
    exact ⟨Nat.le_refl _, fun _ => by rcases hj with rfl | ⟨rfl, hj⟩; { exact hv.symm }; { exact (hv2 hj).symm }⟩

def EndVals (G : Ctx) : (rs : List Md) → List ResultVar → Env → (tupTy rs).D → Prop
  | [], [], _, _ => True
  | m :: rs, t :: ts, e, x => endOne G m e t = some x.1 ∧ EndVals G rs ts e x.2
  | _, _, _, _ => False

theorem endAll_split {G : Ctx} : ∀ (rs ps : List Md) (l : List ResultVar) (e : Env) (r : (tupTy (rs ++ ps.filter Md.isBox)).D), endAll G rs ps l e = some r →
    EndVals G rs l e (splitR rs (ps.filter Md.isBox) r).1 ∧ endBoxes ps 0 e = some (splitR rs (ps.filter Md.isBox) r).2
  | [], ps, [], e, r, h => ⟨trivial, h⟩
  | [], ps, _ :: _, e, r, h => by simp [endAll] at h
  | m :: rs, ps, [], e, r, h => by simp [endAll] at h
  | m :: rs, ps, v :: l, e, r, h => by
    simp only [endAll] at h
    split at h
    · rename_i x hx
      split at h
      · rename_i y hy
        injection h with h
        subst h
        obtain ⟨h2, h3⟩ := endAll_split rs ps l e y hy
        exact ⟨⟨hx, h2⟩, h3⟩
      · cases h
    · cases h
end

end Go.PM
