/- PM: places of rows that may be written: rows come, go, and are lent. -/
import Derived.Test.YtibkgmpfncacpaaPMOpsG
namespace Go.PM
open Go
section
variable {P : Program} {G : Ctx} {w0 : World} {T : Nat → Prop} {f0 : F0} {n : Nat} {e : Env} {a : Act} {W : World} {g : Gh} {o : Oper}
def Gh.at (g : Gh) (d : Nat) (B : Bx) : Gh := { g with bx := fun i => if i = d then B else g.bx i }
theorem St.rebox (h : St w0 T f0 n e a W g) {d : Nat} {pv : PV} {B : Bx} (hd : d < 1000000 ∨ 2000000 ≤ d ∨ B = g.bx d) (hnl : ∀ k, pv.lnkAt k = false) (hlk : pv.there = true → ∀ i k, lk i k = d → (e (.box i)).lnkAt k = true → W.cell? ⟨(g.bx i).b, k, none⟩ = some B.h) (hnc : (e (.box d)).isCell = false) (hh : ∀ hv v, HOk (e (.box d)) (g.bx d) hv v → HOk pv B hv v)
  (hrp : ∀ hv i o sz v, RpOk (e (.box d)) (g.bx d) hv i o sz v → RpOk pv B hv i o sz v)
  (hsh : ∀ hv ver i o v, ShOk (e (.box d)) (g.bx d) hv ver i o v → ShOk pv B hv ver i o v) (hsp : ∀ hv ver i o i2 o2 sz2 v, SpOk (e (.box d)) (g.bx d) hv ver i o i2 o2 sz2 v → SpOk pv B hv ver i o i2 o2 sz2 v) (hb : BRep (g.at d B) W d pv) : St w0 T f0 n (e.set (.box d) pv) a W (g.at d B) where
 defers := h.defers
 tmps := h.tmps
 os := h.os
 tape := h.tape
 output := h.output
 size := h.size
 old := h.old
 ownNew := h.ownNew
 fixLt := h.fixLt
 fixOld := h.fixOld
 fixNew := h.fixNew
 nle := h.nle
 bxOld := fun i hi hi2 => by
  simp only [Gh.at]
  split
  ·rename_i he; subst he
   rcases hd with hd | hd | hd
   ·omega
   ·omega
   ·rw [hd]; exact h.bxOld i hi hi2
  ·exact h.bxOld i hi hi2
 lnks := fun i k q1 q2 => by
  have hid : ¬ i = d := fun he => by
   subst he
   simp only [Env.set, if_true] at q1
   rw [hnl k] at q1; cases q1
  have q1' : (e (.box i)).lnkAt k = true := by simpa [Env.set, hid] using q1
  have hbi : ((g.at d B).bx i).b = (g.bx i).b := by simp [Gh.at, hid]
  rw [hbi]
  by_cases hk : lk i k = d
  ·have q2' : pv.there = true := by simpa [Env.set, hk] using q2
   rw [hlk q2' i k hk q1']
   simp [Gh.at, hk]
  ·have q2' : (e (.box (lk i k))).there = true := by simpa [Env.set, hk] using q2
   rw [h.lnks i k q1' q2']
   simp [Gh.at, hk]
 ptr := fun t => by
  have hs : (e.set (.box d) pv) (.slot t) = e (.slot t) := by simp [Env.set]
  rw [hs]
  have := h.ptr t
  generalize e (.slot t) = q at this ⊢
  generalize a.tmps.getD t undef = v at this ⊢
  have key : ∀ j, ((e.set (.box d) pv) (.box j) = e (.box j) ∧ (g.at d B).bx j = g.bx j) ∨ (j = d ∧ (e.set (.box d) pv) (.box j) = pv ∧ (g.at d B).bx j = B) := fun j => by
   by_cases hj : j = d
   ·subst hj; exact .inr ⟨rfl, by simp [Env.set], by simp [Gh.at]⟩
   ·exact .inl ⟨by simp [Env.set, hj], by simp [Gh.at, hj]⟩
  cases q <;> simp only [PtrOk] at this ⊢
  ·rename_i j lo
   rcases key j with ⟨k, _⟩ | ⟨k1, _, _⟩
   ·rw [k]; exact this
   ·subst k1; rw [hnc] at this; cases this
  ·rename_i j hv
   rcases key j with ⟨k, k'⟩ | ⟨k1, k2, k3⟩
   ·rw [k, k']; exact this
   ·rw [k2, k3]; subst k1; exact hh _ _ this
  ·rename_i j hv ii oo sz
   rcases key j with ⟨k, k'⟩ | ⟨k1, k2, k3⟩
   ·rw [k, k']; exact this
   ·rw [k2, k3]; subst k1; exact hrp _ _ _ _ _ this
  ·rename_i l j0 j hv
   obtain ⟨us, u, q1, q2, q3⟩ := this
   refine ⟨us, u, q1, q2, ?_⟩
   rcases key j with ⟨k, k'⟩ | ⟨k1, k2, k3⟩
   ·rw [k, k']; exact q3
   ·rw [k2, k3]; subst k1; exact hh _ _ q3
  ·rename_i j
   rcases key j with ⟨k, _⟩ | ⟨k1, _, _⟩
   ·rw [k]; exact this
   ·subst k1; rw [hnc] at this; cases this
  ·rename_i j
   rcases key j with ⟨k, _⟩ | ⟨k1, _, _⟩
   ·rw [k]; exact this
   ·subst k1; rw [hnc] at this; cases this
  ·rename_i j _ _ _ _
   rcases key j with ⟨k, k'⟩ | ⟨k1, k2, k3⟩
   ·rw [k, k']; exact this
   ·rw [k2, k3]; subst k1; exact hsh _ _ _ _ _ this
  ·rename_i j _ _ _ _ _ _ _
   rcases key j with ⟨k, k'⟩ | ⟨k1, k2, k3⟩
   ·rw [k, k']; exact this
   ·rw [k2, k3]; subst k1; exact hsp _ _ _ _ _ _ _ _ this
  ·obtain ⟨us, q0, q1⟩ := this
   refine ⟨us, q0, fun x hx => ?_⟩
   obtain ⟨u, q2, q3⟩ := q1 x hx
   refine ⟨u, q2, ?_⟩
   rcases key x.2.1 with ⟨k, k'⟩ | ⟨k1, k2, k3⟩
   ·rw [k, k']; exact q3
   ·rw [k2, k3]; rw [k1] at q3; exact hh _ _ q3
 slots := fun t => by
  have hs : (e.set (.box d) pv) (.slot t) = e (.slot t) := by simp [Env.set]
  rw [hs]
  refine SRep.move (g := g) (g' := g.at d B) (W := W) (W' := W) (X := fun _ => False) ⟨fun b o hf => ⟨hf, fun _ h => h⟩, fun b q hb _ => ⟨hb, rfl, fun _ h => h⟩⟩ (fun hx => hx) (fun i hp => ?_) (h.slots t)
  have := (h.ptr t).cell hp
  have hne : ¬ i = d := fun he => by subst he; rw [hnc] at this; cases this
  simp [Gh.at, hne]
 boxes := fun j => by
  simp only [Env.set, Place.box.injEq]
  split
  ·rename_i he; subst he; exact hb
  ·rename_i hne
   exact BRep.move (g := g) (g' := g.at d B) (W := W) (W' := W) (X := fun _ => False) ⟨fun b o hf => ⟨hf, fun _ h => h⟩, fun b q hb _ => ⟨hb, rfl, fun _ h => h⟩⟩ (fun hx => hx) (fun _ hx => hx) (by simp [Gh.at, hne]) (h.boxes j)
theorem St.relabelRow (h : St w0 T f0 n e a W g) {q : Lab} (q' : Lab) (hf : Free e q) {v : Value} {el : TypeId} {r : Ty} {xs : List r.D} (hrow : RowAt g.fix g.own W q v el r xs) :
  ∃ g', g'.fix = g.fix ∧ g'.bx = g.bx ∧ St w0 T f0 n e a W g' ∧ RowAt g'.fix g'.own W q' v el r xs ∧ ∀ b x, x ≠ q → g.own b = some x → g'.own b = some x := by
 obtain ⟨A, c, h1, h2, h3⟩ := hrow
 rcases h3 with h3 | ⟨b, off, cur, cs, k1, k2, k3, k4, k5, k6, k7, k8, k9⟩
 ·exact ⟨g, rfl, rfl, h, ⟨A, c, h1, h2, .inl h3⟩, fun _ _ _ h => h⟩
 ·refine ⟨{ g with own := fun c => if c = b then some q' else g.own c }, rfl, rfl, h.relabel hf k3, ⟨A, c, h1, h2, .inr ⟨b, off, cur, cs, k1, k2, by simp, k4, k5, k6, k7, k8, k9⟩⟩, fun c x hx hc => ?_⟩
  have : ¬ c = b := fun he => by subst he; rw [k3] at hc; injection hc with hc; exact hx hc.symm
  simp [this, hc]
theorem split_plain : ∀ (t : Ty) (x : t.D), t.plain = true → ∀ d ∈ t.split x, ∀ e2 r2 (y : List r2.D) tip, d ≠ ⟨.osl e2 r2, y, tip⟩
 | .unit, _, _, d, h => by simp [Ty.split] at h
 | .int _, _, _, d, h => by simp [Ty.split] at h; subst h; intro _ _ _ _ hh; cases hh
 | .bool, _, _, d, h => by simp [Ty.split] at h; subst h; intro _ _ _ _ hh; cases hh
 | .str, _, _, d, h => by simp [Ty.split] at h; subst h; intro _ _ _ _ hh; cases hh
 | .sl _ _, _, _, d, h => by simp [Ty.split] at h; subst h; intro _ _ _ _ hh; cases hh
 | .any, _, _, d, h => by simp [Ty.split] at h; subst h; intro _ _ _ _ hh; cases hh
 | .clo _ _, _, hp, _, _ => by simp [Ty.plain] at hp
 | .osl _ _, _, hp, _, _ => by simp [Ty.plain] at hp
 | .pair a b, x, hp, d, h => by
  simp only [Ty.plain, Bool.and_eq_true] at hp
  rcases List.mem_append.1 h with h | h
  ·exact split_plain a _ hp.1 d h
  ·exact split_plain b _ hp.2 d h
theorem SubsAt.plain {fix : Nat → Nat → Prop} {own : Nat → Option Lab} {W : World} {j : Nat} {B : Bx} {r : Ty} {xs : List r.D} (h : r.plain = true) : SubsAt fix own W j B r xs :=
 fun _ x _ _ e2 r2 y tip hd => absurd rfl (split_plain r x h _ (List.mem_of_getElem? hd) e2 r2 y tip)
theorem placeRowG_sound (h : St w0 T f0 n e a W g) {d : Nat} (hdl : d < 1000000 ∨ 2000000 ≤ d) {q : Lab} (hq : Free e q) {v : Value} {el : TypeId} {r : Ty} {xs : List r.D} (hrow : RowAt g.fix g.own W q v el r xs) (sub : Nat → Value)
  (hsub : ∀ own' : Nat → Option Lab, (∀ b off m c, v = .slice (some ⟨b, off, none⟩) m c → own' b = some (.box d)) → SubsAt g.fix own' W d ⟨0, v, sub⟩ r xs) (hlk : ∀ i k, lk i k = d → (e (.box i)).lnkAt k = true → W.cell? ⟨(g.bx i).b, k, none⟩ = some v) {k : Nat → Prog} {e' : Env} (hr : (placeRow0 d el r xs k).run e some = some e') :
  ∃ hv ver g1, (k hv).run (e.set (.box d) (.row el r xs hv ver)) some = some e' ∧ St w0 T f0 n (e.set (.box d) (.row el r xs hv ver)) a W g1 ∧ g1.fix = g.fix ∧ (g1.bx d).h = v ∧ (∀ j, j ≠ d → g1.bx j = g.bx j) ∧ ∀ b x, x ≠ q → g.own b = some x → g1.own b = some x := by
 obtain ⟨g', f1, f2, h', hrow', hkeep⟩ := h.relabelRow (.box d) hq hrow
 have hs' : SubsAt g'.fix g'.own W d ⟨0, v, sub⟩ r xs := by
  rw [f1]
  refine hsub _ fun b off m c hv => ?_
  obtain ⟨A, c', k1, -, k3⟩ := hrow'
  rw [hv] at k1
  injection k1 with k1 _ _
  rcases k3 with ⟨k3, _⟩ | ⟨b', off', _, _, k3, _, k4, _⟩
  ·rw [← k1] at k3; cases k3
  ·rw [← k1] at k3
   injection k3 with k3
   injection k3 with k3 _ _
   rw [k3]; exact k4
 have hd' : d < 1000000 ∨ 2000000 ≤ d ∨ (⟨0, v, sub⟩ : Bx) = g'.bx d := hdl.imp id .inl
 have fin : ∀ hv ver, (e (.box d)).isCell = false → (∀ x v', HOk (e (.box d)) (g'.bx d) x v' → x < hv) → (∀ x i o sz v', RpOk (e (.box d)) (g'.bx d) x i o sz v' → x < hv) →
   (∀ x y i o v', ShOk (e (.box d)) (g'.bx d) x y i o v' → x < hv) → (∀ x y i o i2 o2 sz2 v', SpOk (e (.box d)) (g'.bx d) x y i o i2 o2 sz2 v' → x < hv) →
   St w0 T f0 n (e.set (.box d) (.row el r xs hv ver)) a W (g'.at d ⟨0, v, sub⟩) := fun hv ver hnc c1 c2 c3 c4 =>
  h'.rebox hd' (fun _ => rfl) (fun _ i k hk hl => by rw [f2]; exact hlk i k hk hl) hnc (fun x v' hx => ⟨Nat.le_of_lt (c1 x v' hx), fun he => absurd (c1 x v' hx) (by omega)⟩) (fun x i o sz v' hx => ⟨Nat.le_of_lt (c2 _ _ _ _ _ hx), fun he => absurd (c2 _ _ _ _ _ hx) (by omega)⟩)
   (fun x y i o v' hx => ⟨Nat.le_of_lt (c3 _ _ _ _ _ hx), fun he => absurd (c3 _ _ _ _ _ hx) (by omega)⟩) (fun x y i o i2 o2 sz2 v' hx => ⟨Nat.le_of_lt (c4 _ _ _ _ _ _ _ _ hx), fun he => absurd (c4 _ _ _ _ _ _ _ _ hx) (by omega)⟩)
   (by simp only [BRep, Gh.at, if_true]; exact ⟨hrow', hs'⟩)
 have hat : ((g'.at d ⟨0, v, sub⟩).bx d).h = v ∧ (∀ j, j ≠ d → (g'.at d ⟨0, v, sub⟩).bx j = g.bx j) ∧ ∀ b x, x ≠ q → g.own b = some x → (g'.at d ⟨0, v, sub⟩).own b = some x :=
  ⟨by simp [Gh.at], fun j hj => by simp [Gh.at, hj, f2], hkeep⟩
 simp only [placeRow0, Prog.run] at hr
 split at hr
 ·rename_i hb
  exact ⟨0, 0, _, hr, fin 0 0 (by rw [hb]; rfl) (fun x v' hx => by rw [hb] at hx; exact hx.elim) (fun x i o sz v' hx => by rw [hb] at hx; exact hx.elim) (fun _ _ _ _ _ hx => by rw [hb] at hx; exact hx.elim) (fun _ _ _ _ _ _ _ _ hx => by rw [hb] at hx; exact hx.elim), f1, hat⟩
 ·rename_i hv ver hb
  exact ⟨hv + 1, ver + 1, _, hr, fin _ _ (by rw [hb]; rfl) (fun x v' hx => by rw [hb] at hx; exact Nat.lt_succ_of_le hx) (fun x i o sz v' hx => by rw [hb] at hx; exact Nat.lt_succ_of_le hx) (fun _ _ _ _ _ hx => by rw [hb] at hx; exact Nat.lt_succ_of_le hx) (fun _ _ _ _ _ _ _ _ hx => by rw [hb] at hx; exact Nat.lt_succ_of_le hx), f1, hat⟩
 ·rename_i hv ver hb
  exact ⟨hv + 1, ver + 1, _, hr, fin _ _ (by rw [hb]; rfl) (fun x v' hx => by rw [hb] at hx; exact Nat.lt_succ_of_le hx.1) (fun x i o sz v' hx => by rw [hb] at hx; exact Nat.lt_succ_of_le hx.1) (fun _ _ _ _ _ hx => by rw [hb] at hx; exact Nat.lt_succ_of_le hx.1) (fun _ _ _ _ _ _ _ _ hx => by rw [hb] at hx; exact Nat.lt_succ_of_le hx.1), f1, hat⟩
 ·simp [Prog.run] at hr
theorem placeRow0_sound (h : St w0 T f0 n e a W g) {d : Nat} (hdn : d < n) {q : Lab} (hq : Free e q) {v : Value} {el : TypeId} {r : Ty} {xs : List r.D} (hrow : RowAt g.fix g.own W q v el r xs) (sub : Nat → Value)
  (hsub : ∀ own' : Nat → Option Lab, (∀ b off m c, v = .slice (some ⟨b, off, none⟩) m c → own' b = some (.box d)) → SubsAt g.fix own' W d ⟨0, v, sub⟩ r xs) {k : Nat → Prog} {e' : Env} (hr : (placeRow0 d el r xs k).run e some = some e') :
  ∃ hv ver g1, (k hv).run (e.set (.box d) (.row el r xs hv ver)) some = some e' ∧ St w0 T f0 n (e.set (.box d) (.row el r xs hv ver)) a W g1 ∧ g1.fix = g.fix ∧ (g1.bx d).h = v := by
 have hdl : d < 1000000 := Nat.lt_of_lt_of_le hdn h.nle
 obtain ⟨hv, ver, g1, k1, k2, k3, k4, -⟩ := placeRowG_sound h (.inl hdl) hq hrow sub hsub (fun i k hk => by have := lk_ge i k; omega) hr
 exact ⟨hv, ver, g1, k1, k2, k3, k4⟩
theorem placeRow_sound (h : St w0 T f0 n e a W g) {d : Nat} (hdn : d < n) {q : Lab} (hq : Free e q) {v : Value} {el : TypeId} {r : Ty} {xs : List r.D} (hrow : RowAt g.fix g.own W q v el r xs) {k : Nat → Prog} {e' : Env} (hr : (placeRow d el r xs k).run e some = some e') :
  ∃ hv ver g1, (k hv).run (e.set (.box d) (.row el r xs hv ver)) some = some e' ∧ St w0 T f0 n (e.set (.box d) (.row el r xs hv ver)) a W g1 ∧ g1.fix = g.fix ∧ (g1.bx d).h = v := by
 obtain ⟨hp, hr⟩ := chk_run hr
 exact placeRow0_sound h hdn hq hrow (fun _ => undef) (fun _ _ => .plain hp) hr
theorem free_box {e : Env} {i : Nat} {pv : PV} (h1 : ∀ T cs v, pv ≠ .box T cs v) (h2 : pv.isR = false) : Free (e.set (.box i) pv) (.box i) := by
 refine ⟨fun t ht => (by cases ht), fun i' T' cs' v' hbx => ⟨fun heq => ?_, fun j d hj => (by cases hj)⟩, fun i' hbx => ⟨fun heq => ?_, fun k hk => (by cases hk)⟩⟩
 ·injection heq with heq
  subst heq
  simp [Env.set] at hbx
  exact h1 _ _ _ hbx
 ·injection heq with heq
  subst heq
  simp only [Env.set, if_true] at hbx
  rw [h2] at hbx
  cases hbx
theorem St.leave (h : St w0 T f0 n e a W g) {j : Nat} {el : TypeId} {r : Ty} {xs : List r.D} {hv ver : Nat} (hb : e (.box j) = .row el r xs hv ver) :
  St w0 T f0 n (e.set (.box j) (.gone hv (ver + 1))) a W g ∧ RowAt g.fix g.own W (.box j) (g.bx j).h el r xs ∧ Free (e.set (.box j) (.gone hv (ver + 1))) (.box j) := by
 have hbr := h.boxes j
 rw [hb] at hbr
 refine ⟨h.setBox' trivial ?_ (.out (fun _ => rfl) rfl), hbr.1, free_box (fun _ _ _ hh => by cases hh) rfl⟩
 rw [hb]
 exact ⟨fun hh => (by cases hh), fun b hv v hh => hh.1, fun b hv i o sz v hh => hh.1, fun _ _ _ _ _ _ hh => hh.1, fun _ _ _ _ _ _ _ _ _ hh => hh.1⟩
theorem St.lend (h : St w0 T f0 n e a W g) {j : Nat} {el : TypeId} {r : Ty} {xs : List r.D} {hv ver : Nat} (hb : e (.box j) = .row el r xs hv ver) (q' : Lab) :
  ∃ g', g'.fix = g.fix ∧ g'.bx = g.bx ∧ St w0 T f0 n (e.set (.box j) (.lrow r xs.length hv ver)) a W g' ∧ RowAt g'.fix g'.own W q' (g.bx j).h el r xs ∧ ∀ b i, g.own b = some (.arg i) → g'.own b = some (.arg i) := by
 have hbr := h.boxes j
 rw [hb] at hbr
 have h1 : St w0 T f0 n (e.set (.box j) (.lrow r xs.length hv ver)) a W g := h.setBox' trivial (by
  rw [hb]
  exact ⟨fun hh => (by cases hh), fun b hv v hh => hh, fun b hv i o sz v hh => hh, fun _ _ _ _ _ _ hh => ⟨hh.1, fun he => (hh.2 he).1⟩, fun _ _ _ _ _ _ _ _ _ hh => ⟨hh.1, fun he => (hh.2 he).1⟩⟩) (.row (fun _ => rfl) (by rw [hb]; rfl))
 obtain ⟨g', k1, k2, k3, k4, k5⟩ := h1.relabelRow q' (free_box (fun _ _ _ hh => by cases hh) rfl) hbr.1
 exact ⟨g', k1, k2, k3, k4, fun b i hbi => k5 b _ (by simp) hbi⟩
theorem St.unlend (h : St w0 T f0 n e a W g) {j : Nat} {el : TypeId} {r r' : Ty} {xs : List r.D} {m hv ver : Nat} (hb : e (.box j) = .lrow r' m hv ver) {q : Lab} (hq : Free e q) (hrow : RowAt g.fix g.own W q (g.bx j).h el r xs) (hr : r' = r) (hpl : r.plain = true) (ver' : Nat) (hver : ver < ver') :
  ∃ g', g'.fix = g.fix ∧ g'.bx = g.bx ∧ St w0 T f0 n (e.set (.box j) (.row el r xs hv ver')) a W g' ∧ ∀ b x, x ≠ q → g.own b = some x → g'.own b = some x := by
 subst hr
 obtain ⟨g', k1, k2, k3, k4, k5⟩ := h.relabelRow (.box j) hq hrow
 have hbx : (g'.at j (g'.bx j)) = g' := by
  unfold Gh.at
  have : (fun i => if i = j then g'.bx j else g'.bx i) = g'.bx := by funext i; split <;> simp_all
  rw [this]
 have h2 := k3.rebox (pv := .row el r' xs hv ver') (B := g'.bx j) (.inr (.inr rfl)) (fun _ => rfl) (fun _ i k hk hl => by have := k3.lnks i k hl (by rw [hk, hb]; rfl); rw [this, hk]) (by rw [hb]; rfl) (fun x v hx => by rw [hb] at hx; exact hx) (fun x i o sz v hx => by
  rw [hb] at hx
  refine ⟨hx.1, fun he => ?_⟩
  obtain ⟨p1, p2, blk, off, c, p3, p4⟩ := hx.2 he
  obtain ⟨A, c2, p5, -⟩ := hrow
  rw [k2] at p3
  rw [p3] at p5
  injection p5 with p5 p6 p7
  exact ⟨p1, by rw [← p6]; exact p2, blk, off, c, by rw [k2, p3, p6], p4⟩)
  (fun _ _ _ _ _ hx => by rw [hb] at hx; exact ⟨hx.1, fun he => ⟨Nat.le_of_lt (Nat.lt_of_le_of_lt (hx.2 he) hver), fun he2 => absurd (hx.2 he) (by omega)⟩⟩)
  (fun _ _ _ _ _ _ _ _ hx => by rw [hb] at hx; exact ⟨hx.1, fun he => ⟨Nat.le_of_lt (Nat.lt_of_le_of_lt (hx.2 he) hver), fun he2 => absurd (hx.2 he) (by omega)⟩⟩)
  (by simp only [BRep, Gh.at, if_true]; rw [k2]; exact ⟨k4, .plain hpl⟩)
 rw [hbx] at h2
 exact ⟨g', k1, k2, h2, fun b x hx hbx => k5 b x hx hbx⟩
theorem seeRow_run {j hv : Nat} {k : (e : TypeId) → (r : Ty) → List r.D → Nat → Prog} {e' : Env} (hr : (seeRow j hv k).run e some = some e') : ∃ el r xs ver, e (.box j) = .row el r xs hv ver ∧ (k el r xs ver).run e some = some e' := by
 simp only [seeRow, Prog.run] at hr
 split at hr
 ·rename_i el r xs hv' ver hb
  obtain ⟨h1, hr2⟩ := chk_run hr
  have := Nat.eq_of_beq_eq_true h1
  subst this
  exact ⟨el, r, xs, ver, hb, hr2⟩
 ·simp [Prog.run] at hr
theorem hdr_row (h : St w0 T f0 n e a W g) {j hv ver : Nat} {el : TypeId} {r : Ty} {xs : List r.D} {v : Value} (hp : PtrOk e g (.hdr j hv) v) (hb : e (.box j) = .row el r xs hv ver) : v = (g.bx j).h ∧ RowAt g.fix g.own W (.box j) v el r xs := by
 have hp' : HOk (e (.box j)) (g.bx j) hv v := hp
 rw [hb] at hp'
 have hv := hp'.2 rfl
 have hbr := h.boxes j
 rw [hb] at hbr
 exact ⟨hv, by rw [hv]; exact hbr.1⟩
end
end Go.PM
