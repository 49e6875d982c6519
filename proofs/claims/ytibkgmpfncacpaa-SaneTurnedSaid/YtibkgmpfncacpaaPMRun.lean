/- PM: code, sound: loops and the rest. -/
import Derived.Test.YtibkgmpfncacpaaPMDrawB
import Derived.Scope
namespace Go.PM
open Go
section
variable {P : Program} {G : Ctx} {w0 : World} {T : Nat → Prop} {f0 : F0}
theorem sameBoxes_refl (bxs Ws : List Nat) (L : List LD) (e : Env) : sameBoxes bxs Ws L e e = true := by
 simp [sameBoxes]
theorem exec_sound (hG : CtxOk P G) {A : Ann} {fuel : Nat} : ∀ (c : Code) {R : Type} {e : Env} {a : Act} {W : World} {g : Gh} {k : Ex → Env → Option R} {r : R} {Q : Exit → Act → World → Prop}, St w0 T f0 G.n e a W g → exec G A fuel c e k = some r →
  (∀ x e' a' W' g', k x e' = some r → Pres (writes G c) G.bxs e e' → St w0 T f0 G.n e' a' W' g' → Q (toExit x) a' W') → c.wp P Q a W
 | .skip, R, e, a, W, g, k, r, Q, h, hr, hQ => wp_skip (hQ .normal e a W g hr (.refl _ _ _) h)
 | .scope b, R, e, a, W, g, k, r, Q, h, hr, hQ => by
  simp only [exec] at hr
  refine wp_scope_straight (exec_sound hG b h hr fun ex e' a' W' g' hk hp h' => ?_)
  have := hQ ex e' a' W' g' hk hp h'
  cases ex <;> exact this
 | .label _, R, e, a, W, g, k, r, Q, h, hr, hQ => wp_label (hQ .normal e a W g hr (.refl _ _ _) h)
 | .ret, R, e, a, W, g, k, r, Q, h, hr, hQ => wp_ret (hQ .ret e a W g hr (.refl _ _ _) h)
 | .exit id, R, e, a, W, g, k, r, Q, h, hr, hQ => wp_exit (hQ (.exit id) e a W g hr (.refl _ _ _) h)
 | .region id ops draw, R, e, a, W, g, k, r, Q, h, hr, hQ => by
  have hWg : ∀ (j : Nat) (d : Nat), (ops[j]?).bind (fun o : Oper => o.dst) = some d → d ∈ writes G (.region id ops draw) := fun j d hj => by
   simp only [writes, List.mem_flatMap]
   cases hj2 : ops[j]? with
   | none => rw [hj2] at hj; cases hj
   | some o =>
    rw [hj2] at hj
    exact ⟨o, by simpa using Array.mem_of_getElem? hj2, by simp only [Option.bind_some] at hj; simp [opWrites, hj]⟩
  have hW : ∀ o ∈ ops.toList, ∀ t ∈ opWrites G o, t ∈ writes G (.region id ops draw) := fun o ho t ht => by
   simp only [writes, List.mem_flatMap]
   exact ⟨o, ho, ht⟩
  simp only [exec] at hr
  cases draw <;> simp only [cond_true, cond_false] at hr
  ·exact wp_region_list (runOps_sound (Ws := writes G (.region id ops false)) hG hWg ops.toList h hr hW fun e' a' W' g' hc hp h' => hQ .normal e' a' W' g' hc hp h')
  ·split at hr
   ·rename_i F hF
    cases hd : drawOk (ranksOf A id) F 0 F ops.toList <;> simp only [hd, cond_true, cond_false] at hr
    ·cases hr
    ·exact draw_sound hG h hd hr hW hWg fun e' a' W' g' hc hp h' => hQ .normal e' a' W' g' hc hp h'
   ·cases hr
 | .seq x y, R, e, a, W, g, k, r, Q, h, hr, hQ => by
  simp only [exec] at hr
  refine wp_seq ?_
  split at hr
  ·refine exec_sound hG x h hr fun ex e' a' W' g' hk hp h' => ?_
   cases ex with
   | normal =>
    exact exec_sound hG y h' hk fun ex2 e2 a2 W2 g2 hk2 hp2 h2 => hQ ex2 e2 a2 W2 g2 hk2 ((hp.mono (by simp [writes]; exact fun t ht => .inl ht)).trans (hp2.mono (by simp [writes]; exact fun t ht => .inr ht))) h2
   | exit id => exact hQ (.exit id) e' a' W' g' hk (hp.mono (by simp [writes]; exact fun t ht => .inl ht)) h'
   | ret => exact hQ .ret e' a' W' g' hk (hp.mono (by simp [writes]; exact fun t ht => .inl ht)) h'
  ·rename_i L hL
   cases hok2 : (liveOk G.bxs (writes G x) L && rowsAt L e) <;> simp only [hok2, Bool.not_true, Bool.not_false, cond_true, cond_false] at hr
   ·cases hr
   simp only [Bool.and_eq_true] at hok2
   obtain ⟨hok, hra⟩ := hok2
   generalize hm : exec (R := (liveTy L).D ⊕ R) G A fuel x e (fun x_1 e' => match x_1 with
     | .normal => bif sameBoxes G.bxs (writes G x) L e e' then (takeLive L e').map .inl else none
     | x_1 => (k x_1 e').map .inr) = m at hr
   cases m with
   | none => cases hr
   | some sr =>
    refine exec_sound hG x h hm fun ex e' a' W' g' hk hp h' => ?_
    cases ex with
    | normal =>
     simp only at hk
     cases hsb : sameBoxes G.bxs (writes G x) L e e' <;> simp only [hsb, cond_true, cond_false] at hk
     ·cases hk
     cases ht : takeLive L e' with
     | none => rw [ht] at hk; cases hk
     | some s =>
      rw [ht] at hk
      simp only [Option.map_some, Option.some.injEq] at hk
      subst hk
      simp only [Option.bind_some] at hr
      have hh := h'.head hp hsb hra hok ht
      exact exec_sound hG y hh hr fun ex2 e2 a2 W2 g2 hk2 hp2 h2 => hQ ex2 e2 a2 W2 g2 hk2 (((pres_head hok hra).mono (by simp [writes]; exact fun t ht => .inl ht)).trans (hp2.mono (by simp [writes]; exact fun t ht => .inr ht))) h2
    | exit id =>
     simp only at hk
     cases hkk : k (.exit id) e' with
     | none => rw [hkk] at hk; cases hk
     | some r' =>
      rw [hkk] at hk
      simp only [Option.map_some, Option.some.injEq] at hk
      subst hk
      simp only [Option.bind_some, Option.some.injEq] at hr
      subst hr
      exact hQ (.exit id) e' a' W' g' hkk (hp.mono (by simp [writes]; exact fun t ht => .inl ht)) h'
    | ret =>
     simp only at hk
     cases hkk : k .ret e' with
     | none => rw [hkk] at hk; cases hk
     | some r' =>
      rw [hkk] at hk
      simp only [Option.map_some, Option.some.injEq] at hk
      subst hk
      simp only [Option.bind_some, Option.some.injEq] at hr
      subst hr
      exact hQ .ret e' a' W' g' hkk (hp.mono (by simp [writes]; exact fun t ht => .inl ht)) h'
 | .cond c x y, R, e, a, W, g, k, r, Q, h, hr, hQ => by
  simp only [exec] at hr
  split at hr
  ·rename_i t
   split at hr
   ·rename_i v tip he
    have hs := h.slots t
    rw [he] at hs
    have hv : a.tmps.getD t undef = .bool v := bool_of_dat hs.dat
    have hmem : t ∈ writes G (.cond (.tmp t) x y) := by simp [writes, tmpsOf]
    cases v <;> simp only [cond_true, cond_false] at hr
    ·refine wp_cond_false hv (exec_sound hG y (h.setSlot (t := t) (pv := .val ⟨.bool, false, false⟩) (by rw [hv]; exact ⟨rfl, rfl, fun hh => by simp at hh⟩) (not_ptr rfl e)) hr fun ex e' a' W' g' hk hp h' => hQ ex e' a' W' g' hk ((Pres.setSlot hmem _).trans (hp.mono (by simp [writes]; exact fun t ht => .inr (.inr ht)))) h')
    ·refine wp_cond_true hv (exec_sound hG x (h.setSlot (t := t) (pv := .val ⟨.bool, true, false⟩) (by rw [hv]; exact ⟨rfl, rfl, fun hh => by simp at hh⟩) (not_ptr rfl e)) hr fun ex e' a' W' g' hk hp h' => hQ ex e' a' W' g' hk ((Pres.setSlot hmem _).trans (hp.mono (by simp [writes]; exact fun t ht => .inr (.inl ht)))) h')
   ·cases hr
  ·cases hr
 | .block id x, R, e, a, W, g, k, r, Q, h, hr, hQ => by
  simp only [exec] at hr
  refine wp_block (exec_sound hG x h hr fun ex e' a' W' g' hk hp h' => ?_)
  cases ex with
  | normal => exact hQ .normal e' a' W' g' hk hp h'
  | exit j =>
   simp only at hk
   simp only [toExit, Exit.inBlock]
   split at hk
   ·rename_i hj; rw [if_pos hj]; exact hQ .normal e' a' W' g' hk hp h'
   ·rename_i hj; rw [if_neg hj]; exact hQ (.exit j) e' a' W' g' hk hp h'
  | ret => exact hQ .ret e' a' W' g' hk hp h'
 | .loop b, R, e, a, W, g, k, r, Q, h, hr, hQ => by
  simp only [exec] at hr
  split at hr
  ·cases hr
  ·rename_i L hL
   cases hok2 : (liveOk G.bxs (writes G b) L && rowsAt L e) <;> simp only [hok2, Bool.not_true, Bool.not_false, cond_true, cond_false] at hr
   ·cases hr
   simp only [Bool.and_eq_true] at hok2
   obtain ⟨hok, hra⟩ := hok2
   split at hr
   ·cases hr
   ·rename_i s hs
    refine wp_loop_rounds fuel ?_
    have key : ∀ (m : Nat) (s : (liveTy L).D) (a : Act) (W : World) (g : Gh), St w0 T f0 G.n (giveLive L s (drop (writes G b) (lost G.bxs (writes G b) L) e)) a W g →
      loopF (fun s rec => exec G A fuel b (giveLive L s (drop (writes G b) (lost G.bxs (writes G b) L) e)) fun x e' => match x with
       | .normal => bif sameBoxes G.bxs (writes G b) L e e' then (match takeLive L e' with
        | some s' => rec s'
        | none => none) else none
       | x => k x e') m s = some r → Code.rounds P b Q m a W := by
     intro m
     induction m with
     | zero => intro s a W g _ hr; cases hr
     | succ m ih =>
      intro s a W g h hr
      simp only [loopF] at hr
      rw [rounds_succ]
      refine exec_sound hG b h hr fun ex e' a' W' g' hk hp h' => ?_
      have hpe : Pres (writes G b) G.bxs e e' := (pres_head hok hra).trans hp
      cases ex with
      | normal =>
       simp only at hk
       cases hsb : sameBoxes G.bxs (writes G b) L e e' <;> simp only [hsb, cond_true, cond_false] at hk
       ·cases hk
       split at hk
       ·rename_i s' hs'
        exact ih s' a' W' g' (h'.head hpe hsb hra hok hs') hk
       ·cases hk
      | exit id => exact hQ (.exit id) e' a' W' g' hk hpe h'
      | ret => exact hQ .ret e' a' W' g' hk hpe h'
    exact key fuel s a W g (h.head (bxs := G.bxs) (Pres.refl _ G.bxs _) (sameBoxes_refl G.bxs _ L e) hra hok hs) hr
 | .rangeFunc _ _ _ _, _, _, _, _, _, _, _, _, _, hr, _ => by simp [exec] at hr
 | .goto _, _, _, _, _, _, _, _, _, _, hr, _ => by simp [exec] at hr
 | .refuse _, _, _, _, _, _, _, _, _, _, hr, _ => by simp [exec] at hr
end
end Go.PM
