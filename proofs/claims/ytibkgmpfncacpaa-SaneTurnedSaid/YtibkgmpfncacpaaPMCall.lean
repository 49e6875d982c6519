/- PM: functions that are called. -/
import Derived.Test.YtibkgmpfncacpaaPMLink
namespace Go.PM
open Go
def ArgsRep (fix : Nat → Nat → Prop) (own : Nat → Option Lab) (W : World) : Nat → (ps : List Md) → (tupTy ps).D → List Value → Prop
 | _, [], _, [] => True
 | i, .val t :: ps, z, v :: vs => VRep fix W t z.1 v ∧ ArgsRep fix own W (i + 1) ps z.2 vs
 | i, .tip t :: ps, z, v :: vs => (Value.isAgg v = false ∧ Rep fix W t z.1 [v] ∧ Tip fix own W (.arg i) t v) ∧ ArgsRep fix own W (i + 1) ps z.2 vs
 | i, .box T t :: ps, z, v :: vs => (∃ B us, v = .pointer (some ⟨B, 0, none⟩) ∧ W.heap[B]? = some (.cells us T (0, 0)) ∧ own B = some (.arg i) ∧ (∀ o, ¬ fix B o) ∧ Rep fix W t z.1 us.toList ∧ BoxSubs fix own W (fun k => .arg (lk i k)) (t.split z.1) us.toList) ∧ ArgsRep fix own W (i + 1) ps z.2 vs
 | i, .nilp s :: ps, z, v :: vs => v = (bif s then .slice none 0 0 else .pointer none) ∧ ArgsRep fix own W (i + 1) ps z.2 vs
 | i, .cap t :: ps, z, v :: vs => (∃ ad, v = .pointer (some ad) ∧ ad.spot = none ∧ ∃ ci, Rep fix W t z.1 ci ∧ ∀ (j : Nat) (u : Value), ci[j]? = some u → fix ad.block (ad.off + j) ∧ W.cell? ⟨ad.block, ad.off + j, none⟩ = some u) ∧ ArgsRep fix own W (i + 1) ps z.2 vs
 | i, .full t b :: ps, z, v :: vs => (Value.isAgg v = false ∧ Rep fix W t z.1 [v] ∧ ∃ A n c, v = .slice A n c ∧ A.isSome = b) ∧ ArgsRep fix own W (i + 1) ps z.2 vs
 | i, .take e r :: ps, z, v :: vs => RowAt fix own W (.arg i) v e r z.1 ∧ ArgsRep fix own W (i + 1) ps z.2 vs
 | i, .own e r :: ps, z, v :: vs => RowAt fix own W (.arg i) v e r z.1 ∧ ArgsRep fix own W (i + 1) ps z.2 vs
 | _, _, _, _ => False
def BackRep (fix : Nat → Nat → Prop) (own : Nat → Option Lab) (W : World) : Nat → (ps : List Md) → (tupTy (ps.filter Md.isBox)).D → List Value → Prop
 | _, [], _, _ => True
 | i, .val _ :: ps, z, _ :: vs => BackRep fix own W (i + 1) ps z vs
 | i, .tip _ :: ps, z, _ :: vs => BackRep fix own W (i + 1) ps z vs
 | i, .nilp _ :: ps, z, _ :: vs => BackRep fix own W (i + 1) ps z vs
 | i, .cap _ :: ps, z, _ :: vs => BackRep fix own W (i + 1) ps z vs
 | i, .full _ _ :: ps, z, _ :: vs => BackRep fix own W (i + 1) ps z vs
 | i, .box T t :: ps, z, v :: vs => (∃ B us, v = .pointer (some ⟨B, 0, none⟩) ∧ W.heap[B]? = some (.cells us T (0, 0)) ∧ own B = some (.arg i) ∧ (∀ o, ¬ fix B o) ∧ Rep fix W t z.1 us.toList ∧ BoxSubs fix own W (fun k => .arg (lk i k)) (t.split z.1) us.toList) ∧ BackRep fix own W (i + 1) ps z.2 vs
 | i, .take _ _ :: ps, z, _ :: vs => BackRep fix own W (i + 1) ps z vs
 | i, .own e r :: ps, z, v :: vs => RowAt fix own W (.arg i) v e r z.1 ∧ BackRep fix own W (i + 1) ps z.2 vs
 | _, _, _, _ => False
def TupRep (fix : Nat → Nat → Prop) (own : Nat → Option Lab) (W : World) : (rs : List Md) → (tupTy rs).D → List Value → Prop
 | [], _, [] => True
 | .val t :: rs, x, v :: vs => VRep fix W t x.1 v ∧ TupRep fix own W rs x.2 vs
 | .own e r :: rs, x, v :: vs => RowAt fix own W (.arg 1000000) v e r x.1 ∧ TupRep fix own W rs x.2 vs
 | _, _, _ => False
def ResRep (fix : Nat → Nat → Prop) (own : Nat → Option Lab) (W : World) : (rs : List Md) → (tupTy rs).D → Value → Prop
 | [.val t], x, v => VRep fix W t x.1 v
 | [.tip t], x, v => Value.isAgg v = false ∧ Rep fix W t x.1 [v] ∧ Tip fix own W (.arg 1000000) t v
 | [.box T t], x, v => ∃ B us, v = .pointer (some ⟨B, 0, none⟩) ∧ W.heap[B]? = some (.cells us T (0, 0)) ∧ own B = some (.arg 1000000) ∧ (∀ o, ¬ fix B o) ∧ Rep fix W t x.1 us.toList
 | [.own e r], x, v => RowAt fix own W (.arg 1000000) v e r x.1
 | [.str t], x, v => ∃ us, v = .agg us ∧ Rep fix W t x.1 us.toList ∧ BoxSubs fix own W (fun _ => .arg 1000000) (t.split x.1) us.toList
 | rs, x, v => ∃ us, v = .tuple us ∧ TupRep fix own W rs x us.toList
structure After (W W' : World) (fix fix' : Nat → Nat → Prop) (own own' : Nat → Option Lab) : Prop where
 os : W'.os = W.os
 tape : W'.tape = W.tape
 output : W'.output = W.output
 size : W.heap.size ≤ W'.heap.size
 old : ∀ b, b < W.heap.size → own b = none → W'.heap[b]? = W.heap[b]?
 fixed : ∀ b o, fix b o → fix' b o ∧ ∀ u, W.cell? ⟨b, o, none⟩ = some u → W'.cell? ⟨b, o, none⟩ = some u
 fixNew : ∀ b o, b < W.heap.size → own b = none → fix' b o → fix b o
 fixLt : ∀ b o, fix' b o → b < W'.heap.size
 ownNew : ∀ b q, own' b = some q → b < W'.heap.size ∧ (b < W.heap.size → own b ≠ none)
structure FOk (P : Program) (f : FuncId) (S : FSpec) : Prop where
 fn : ∃ fn, P.funcs[f]? = some fn ∧ fn.body.isSome = true ∧ (fn.name == "runtime.NumGoroutine") = false
 run : ∀ (z : (tupTy S.ps).D) (r) (W : World) (fix : Nat → Nat → Prop) (own : Nat → Option Lab) (vs : List Value), S.run z = some r →
  (∀ b o, fix b o → b < W.heap.size) → (∀ b q, own b = some q → b < W.heap.size) → ArgsRep fix own W 0 S.ps z vs →
  Calls P f vs.toArray W fun e W' => ∃ v fix' own', e = .returned v ∧ After W W' fix fix' own own' ∧ ResRep fix' own' W' S.rs (splitR S.rs (S.ps.filter Md.isBox) r).1 v ∧
   BackRep fix' own' W' 0 S.ps (splitR S.rs (S.ps.filter Md.isBox) r).2 vs
section
variable {P : Program} {G : Ctx} {w0 : World} {T : Nat → Prop} {f0 : F0} {n : Nat} {e : Env} {a : Act} {W : World} {g : Gh} {o : Oper}
theorem RowAt.keep {fix : Nat → Nat → Prop} {own own' : Nat → Option Lab} {q : Lab} {v : Value} {el : TypeId} {r : Ty} {xs : List r.D} (h : RowAt fix own W q v el r xs) (hk : ∀ b, own b = some q → own' b = some q) : RowAt fix own' W q v el r xs := by
 obtain ⟨A, c, h1, h2, h3⟩ := h
 exact ⟨A, c, h1, h2, h3.imp id fun ⟨b, off, cur, cs, k1, k2, k3, k4⟩ => ⟨b, off, cur, cs, k1, k2, hk _ k3, k4⟩⟩
theorem BoxSubs.keep {fix : Nat → Nat → Prop} {own own' : Nat → Option Lab} {q : Nat → Lab} {ds : List DV} {us : List Value} (h : BoxSubs fix own W q ds us) (hk : ∀ b k, k < 1000 → own b = some (q k) → own' b = some (q k)) : BoxSubs fix own' W q ds us := fun k e2 r2 y tip hd => by
 obtain ⟨h1, h2, u, h3, h4⟩ := h k e2 r2 y tip hd
 exact ⟨h1, h2, u, h3, h4.keep fun b hb => hk b k h1 hb⟩
theorem ArgsRep.keep {fix : Nat → Nat → Prop} {own own' : Nat → Option Lab} (hk : ∀ b j, own b = some (.arg j) → own' b = some (.arg j)) : ∀ {i : Nat} {ps : List Md} {z : (tupTy ps).D} {vs : List Value}, ArgsRep fix own W i ps z vs → ArgsRep fix own' W i ps z vs := by
 intro i ps
 induction ps generalizing i with
 | nil => intro z vs h; cases vs <;> exact h
 | cons m ps ih =>
  intro z vs h
  cases m <;> cases vs <;> try exact h
  ·exact ⟨h.1, ih h.2⟩
  ·refine ⟨⟨h.1.1, h.1.2.1, ?_⟩, ih h.2⟩
   have ht := h.1.2.2
   rename_i t v vs
   cases t <;> simp only [Tip] at ht ⊢
   rcases ht with ht | ⟨b, m, cap, cur, h1, h2, h3, h4, h5, h6, h7⟩
   ·exact .inl ht
   ·exact .inr ⟨b, m, cap, cur, h1, h2, h3, h4, h5, hk _ _ h6, h7⟩
  ·obtain ⟨⟨B, us, h1, h2, h3, h4, h5, h7⟩, h6⟩ := h
   exact ⟨⟨B, us, h1, h2, hk _ _ h3, h4, h5, h7.keep fun b k _ hb => hk b _ hb⟩, ih h6⟩
  ·exact ⟨h.1, ih h.2⟩
  ·exact ⟨h.1, ih h.2⟩
  ·exact ⟨h.1, ih h.2⟩
  ·exact ⟨h.1.keep (fun b hb => hk b _ hb), ih h.2⟩
  ·exact ⟨h.1.keep (fun b hb => hk b _ hb), ih h.2⟩
theorem free_arg (e : Env) (i : Nat) : Free e (.arg i) := ⟨fun t h => (by cases h), fun i' T cs v _ => ⟨by simp, fun j d h => by cases h⟩, fun i' _ => by simp⟩
theorem St.retip' {n : Nat} (h : St w0 T f0 n e a W g) {q : Lab} (q' : Lab) (hf : Free e q) {ty : Ty} {v : Value} (ht : Tip g.fix g.own W q ty v) (hq : ∀ j, q ≠ .arg j) :
  ∃ g', g'.fix = g.fix ∧ g'.bx = g.bx ∧ St w0 T f0 n e a W g' ∧ Tip g'.fix g'.own W q' ty v ∧ ∀ b j, g.own b = some (.arg j) → g'.own b = some (.arg j) := by
 cases ty <;> simp only [Tip] at ht
 rcases ht with ht | ⟨b, m, cap, cur, h1, h2, h3, h4, h5, h6, h7⟩
 ·exact ⟨g, rfl, rfl, h, .inl ht, fun _ _ h => h⟩
 ·refine ⟨{ g with own := fun c => if c = b then some q' else g.own c }, rfl, rfl, h.relabel hf h6, .inr ⟨b, m, cap, cur, h1, h2, h3, h4, h5, by simp, h7⟩, fun c j hc => ?_⟩
  have : ¬ c = b := fun he => by subst he; rw [h6] at hc; injection hc with hc; exact hq j hc
  simp [this, hc]
theorem collectC_sound {fix : Nat → Nat → Prop} {own : Nat → Option Lab} {e' : Env} : ∀ (ps : List Md) (c : Ty) (cy : c.D) (i : Nat) (cv : List Value) {k : (tupTy ps).D → Prog}, RepC fix W c cy cv → (collectC ps c cy k).run e some = some e' →
  ∃ z, (k z).run e some = some e' ∧ ArgsRep fix own W i ps z cv
 | [], c, cy, i, cv, k, hc, hr => by
  cases c <;> try (simp [collectC, Prog.run] at hr; done)
  have hc' : cv = [] := hc
  subst hc'
  exact ⟨(), hr, trivial⟩
 | .cap t :: ps, c, cy, i, cv, k, hc, hr => by
  cases c <;> try (simp [collectC, Prog.run] at hr; done)
  rename_i p q
  simp only [collectC] at hr
  split at hr
  ·rename_i x hx
   obtain ⟨tp, hx⟩ := DV.as_eq hx
   injection hx with q1 q2 q3
   subst q1
   have q2 := eq_of_heq q2
   obtain ⟨ad, ps', h1, h2, h3, h4⟩ := hc
   subst h1
   obtain ⟨z, k1, k2⟩ := collectC_sound ps q cy.2 (i + 1) ps' (own := own) h3 hr
   exact ⟨(x, z), k1, ⟨ad, rfl, h2, by rw [← q2]; exact h4⟩, k2⟩
  ·simp [Prog.run] at hr
 | .val _ :: _, c, _, _, _, _, _, hr => by cases c <;> simp [collectC, Prog.run] at hr
 | .tip _ :: _, c, _, _, _, _, _, hr => by cases c <;> simp [collectC, Prog.run] at hr
 | .box _ _ :: _, c, _, _, _, _, _, hr => by cases c <;> simp [collectC, Prog.run] at hr
 | .nilp s :: _, c, _, _, _, _, _, hr => by cases c <;> simp [collectC, Prog.run] at hr
 | .full _ _ :: _, c, _, _, _, _, _, hr => by cases c <;> simp [collectC, Prog.run] at hr
 | .own _ _ :: _, c, _, _, _, _, _, hr => by cases c <;> simp [collectC, Prog.run] at hr
 | .take _ _ :: _, c, _, _, _, _, _, hr => by cases c <;> simp [collectC, Prog.run] at hr
 | .str _ :: _, c, _, _, _, _, _, hr => by cases c <;> simp [collectC, Prog.run] at hr
theorem collect_sound {bxs : List Nat} {c : Ty} {cy : c.D} {cv : List Value} {e' : Env} : ∀ (ps : List Md) (xs : List Operand) (i : Nat) {e : Env} {g : Gh} {k : (tupTy ps).D → Prog}, St w0 T f0 n e a W g → RepC g.fix W c cy cv → (collect bxs c cy ps xs k).run e some = some e' →
  ∃ z e1 g1, (k z).run e1 some = some e' ∧ St w0 T f0 n e1 a W g1 ∧ g1.fix = g.fix ∧ g1.bx = g.bx ∧ ArgsRep g1.fix g1.own W i ps z (xs.map a.eval ++ cv) ∧ ∀ b j, g.own b = some (.arg j) → g1.own b = some (.arg j)
 | ps, [], i, e, g, k, h, hcv, hr => by
  have hr : (collectC ps c cy k).run e some = some e' := by unfold collect at hr; exact hr
  obtain ⟨z, k1, k2⟩ := collectC_sound ps c cy i cv (own := g.own) hcv hr
  exact ⟨z, e, g, k1, h, rfl, rfl, k2, fun _ _ h => h⟩
 | [], _ :: _, _, _, _, _, _, _, hr => by simp [collect, Prog.run] at hr
 | .cap _ :: _, _ :: _, _, _, _, _, _, _, hr => by simp [collect, Prog.run] at hr
 | .full _ _ :: _, _ :: _, _, _, _, _, _, _, hr => by simp [collect, Prog.run] at hr
 | .str _ :: _, _ :: _, _, _, _, _, _, _, hr => by simp [collect, Prog.run] at hr
 | .nilp s :: ps, x :: xs, i, e, g, k, h, hcv, hr => by
  simp only [collect] at hr
  obtain ⟨pv, hr1, hdat, -⟩ := getV_sound h hr
  split at hr1
  ·obtain ⟨z, e1, g1, k1, k2, k3, k4, k5, k6⟩ := collect_sound ps xs (i + 1) h hcv hr1
   exact ⟨((), z), e1, g1, k1, k2, k3, k4, ⟨hdat, k5⟩, k6⟩
  ·obtain ⟨z, e1, g1, k1, k2, k3, k4, k5, k6⟩ := collect_sound ps xs (i + 1) h hcv hr1
   exact ⟨((), z), e1, g1, k1, k2, k3, k4, ⟨hdat, k5⟩, k6⟩
  ·simp [Prog.run] at hr1
 | .val t :: ps, x :: xs, i, e, g, k, h, hcv, hr => by
  simp only [collect] at hr
  obtain ⟨y, hr1, hy⟩ := getD_sound h hr
  obtain ⟨z, e1, g1, k1, k2, k3, k4, k5, k6⟩ := collect_sound ps xs (i + 1) h hcv hr1
  exact ⟨(y, z), e1, g1, k1, k2, k3, k4, ⟨by rw [k3]; exact hy, k5⟩, k6⟩
 | .tip t :: ps, x :: xs, i, e, g, k, h, hcv, hr => by
  simp only [collect] at hr
  -- the value with its right, in a state that has lost it
  have fin : ∀ (e1 : Env) (g1 : Gh) (y : t.D), St w0 T f0 n e1 a W g1 → g1.fix = g.fix → g1.bx = g.bx → (∀ b j, g.own b = some (.arg j) → g1.own b = some (.arg j)) → Value.isAgg (a.eval x) = false → Rep g.fix W t y [a.eval x] → Tip g1.fix g1.own W (.arg i) t (a.eval x) →
    (collect bxs c cy ps xs fun z => k (y, z)).run e1 some = some e' → ∃ z e1 g1, (k z).run e1 some = some e' ∧ St w0 T f0 n e1 a W g1 ∧ g1.fix = g.fix ∧ g1.bx = g.bx ∧ ArgsRep g1.fix g1.own W i (.tip t :: ps) z ((x :: xs).map a.eval ++ cv) ∧ ∀ b j, g.own b = some (.arg j) → g1.own b = some (.arg j) := by
   intro e1 g1 y h1 hf hb hk hag hrep htip hr
   obtain ⟨z, e2, g2, k1, k2, k3, k4, k5, k6⟩ := collect_sound ps xs (i + 1) h1 (by rw [hf]; exact hcv) hr
   refine ⟨(y, z), e2, g2, k1, k2, k3.trans hf, k4.trans hb, ⟨⟨hag, by rw [k3, hf]; exact hrep, ?_⟩, k5⟩, fun b j hbj => k6 b j (hk b j hbj)⟩
   have hh : ArgsRep g2.fix g1.own W i [.tip t] (y, ()) [a.eval x] := ⟨⟨hag, by rw [k3, hf]; exact hrep, by rw [k3]; exact htip⟩, trivial⟩
   exact (hh.keep k6).1.2.2
  rcases hand_sound h hr with ⟨pv, hr1, hcl, hdat, _⟩ | ⟨s, ty, y, hxs, hes, hr1, h', hdat, htip⟩
  ·rcases typed_cases (some t) pv with he | ⟨he, ⟨el, r, hT, hty'⟩ | hty'⟩
   ·rw [he] at hr1
    split at hr1
    ·simp [PV.clear, DV.clear] at hcl
    ·simp [Prog.run] at hr1
   ·rw [hty'] at hr1
    subst he
    injection hT with hT
    subst hT
    have hv : a.eval x = .slice none 0 0 := hdat
    split at hr1
    ·rename_i te zs heq
     injection heq with heq
     injection heq with q1 q2 q3
     subst q1
     have q2 := eq_of_heq q2
     subst q2
     split at hr1
     ·rename_i y' hy'
      obtain ⟨tp, hy'⟩ := DV.as_eq hy'
      injection hy' with _ hy' _
      subst hy'
      exact fin e g _ h rfl rfl (fun _ _ h => h) (by rw [hv]; rfl) (by rw [hv]; exact ⟨none, 0, rfl, ⟨Nat.le_refl _, Nat.zero_le _⟩, fun hh => absurd rfl hh⟩) (.inl ⟨none, 0, hv⟩) hr1
     ·simp [Prog.run] at hr1
    ·(first | (rename_i hne; exact (hne _ _ rfl).elim) | cases hr1)
   ·rw [hty'] at hr1
    cases hr1
  ·simp only [typed] at hr1
   split at hr1
   ·rename_i y' hy'
    obtain ⟨tp, hy'⟩ := DV.as_eq hy'
    injection hy' with q1 q2 q3
    subst q1
    have q2 := eq_of_heq q2
    subst q2
    obtain ⟨g1, k1, k2, k3, k4, k5⟩ := h'.retip' (.arg i) (free_slot rfl) htip (by simp)
    exact fin _ g1 _ k3 k1 k2 k5 hdat.1 hdat.2.1 k4 hr1
   ·simp [Prog.run] at hr1
 | .take el r :: ps, x :: xs, i, e, g, k, h, hcv, hr => by
  simp only [collect] at hr
  obtain ⟨pv, hr1, hdat, hp⟩ := getV_sound h hr
  split at hr1
  ·rename_i j hv
   simp only [Prog.run] at hr1
   split at hr1
   ·rename_i e' r' ys hv' ver hb
    split at hr1
    ·rename_i y hy
     obtain ⟨tp, hy⟩ := DV.as_eq hy
     injection hy with q1 q2 q3
     injection q1 with q1 q4
     subst q1
     subst q4
     have q2 := eq_of_heq q2
     subst q2
     obtain ⟨hveq, hr2⟩ := chk_run hr1
     have hveq := Nat.eq_of_beq_eq_true hveq
     subst hveq
     split at hr2
     ·simp [Prog.run] at hr2
     simp only [Prog.run] at hr2
     have hvv := (hdr_row h hp hb).1
     obtain ⟨h0, hrow0, hq⟩ := h.leave hb
     obtain ⟨g1, f1, f2, h1, hrow, hkeep0⟩ := h0.relabelRow (.arg i) hq hrow0
     have hkeep : ∀ b j, g.own b = some (.arg j) → g1.own b = some (.arg j) := fun b j hb => hkeep0 b _ (by simp) hb
     obtain ⟨z, e2, g2, k1, k2, k3, k4, k5, k6⟩ := collect_sound ps xs (i + 1) h1 (by rw [f1]; exact hcv) hr2
     refine ⟨(ys, z), e2, g2, k1, k2, k3.trans f1, k4.trans f2, ⟨?_, k5⟩, fun b j hbj => k6 b j (hkeep b j hbj)⟩
     rw [hvv, k3]
     exact hrow.keep (fun b hb => k6 b i hb)
    ·simp [Prog.run] at hr1
   ·simp [Prog.run] at hr1
  ·simp [Prog.run] at hr1
 | .own el r :: ps, x :: xs, i, e, g, k, h, hcv, hr => by
  simp only [collect] at hr
  obtain ⟨pv, hr1, hdat, hp⟩ := getV_sound h hr
  split at hr1
  ·rename_i j hv
   simp only [Prog.run] at hr1
   split at hr1
   ·rename_i e' r' ys hv' ver hb
    split at hr1
    ·rename_i y hy
     obtain ⟨tp, hy⟩ := DV.as_eq hy
     injection hy with q1 q2 q3
     injection q1 with q1 q4
     subst q1
     subst q4
     have q2 := eq_of_heq q2
     subst q2
     obtain ⟨hveq, hr2⟩ := chk_run hr1
     have hveq := Nat.eq_of_beq_eq_true hveq
     subst hveq
     split at hr2
     ·simp [Prog.run] at hr2
     simp only [Prog.run] at hr2
     have hvv := (hdr_row h hp hb).1
     obtain ⟨g1, f1, f2, h1, hrow, hkeep⟩ := h.lend hb (.arg i)
     obtain ⟨z, e2, g2, k1, k2, k3, k4, k5, k6⟩ := collect_sound ps xs (i + 1) h1 (by rw [f1]; exact hcv) hr2
     refine ⟨(ys, z), e2, g2, k1, k2, k3.trans f1, k4.trans f2, ⟨?_, k5⟩, fun b j hbj => k6 b j (hkeep b j hbj)⟩
     rw [hvv, k3]
     exact hrow.keep (fun b hb => k6 b i hb)
    ·simp [Prog.run] at hr1
   ·simp [Prog.run] at hr1
  ·simp [Prog.run] at hr1
 | .box B t :: ps, x :: xs, i, e, g, k, h, hcv, hr => by
  simp only [collect] at hr
  obtain ⟨pv, hr1, hdat, hp⟩ := getV_sound h hr
  split at hr1
  ·rename_i id
   simp only [Prog.run] at hr1
   split at hr1
   ·rename_i B' cs ver hb
    split at hr1
    ·rename_i hB
     subst hB
     have hv : a.eval x = .pointer (some ⟨(g.bx id).b, 0, none⟩) := hdat
     have hbr := h.boxes id
     rw [hb] at hbr
     obtain ⟨vs, q1, -, -, q4, -⟩ := hbr
     obtain ⟨y, pre, l, us1, us2, e0, g0, s1, s2, s3, s4, s5, hr1, h0, f0', f1', hb0, s6, s7, s8⟩ := lendK_sound (p := i) t 0 cs vs.toList h hb q1 (fun j d hd => by rw [Nat.zero_add]; exact hd) (fun j u hu => by rw [Nat.zero_add]; simpa using hu) q4 hr1
     split at hr1
     ·have hus2 : us2 = [] := by
       cases us2 with
       | nil => rfl
       | cons _ _ => exact s5.elim
      subst hus2
      rw [List.append_nil] at s2
      split at hr1
      ·simp [Prog.run] at hr1
      simp only [Prog.run] at hr1
      have hbr0 := h0.boxes id
      rw [hb0] at hbr0
      obtain ⟨vs', q1', q2, q3, -, -⟩ := hbr0
      rw [f1'] at q1' q2 q3
      rw [q1] at q1'
      injection q1' with q1'
      injection q1' with q1' _ _
      subst q1'
      have h1 : St w0 T f0 n (e0.set (.box id) (.lent B ver)) a W g0 := h0.setBox (pv := .lent B ver) trivial (fun _ => rfl) (by rw [hb0]; rfl) (.out (fun _ => rfl) rfl)
      have hfree : Free (e0.set (.box id) (.lent B ver)) (.box id) := by
       refine ⟨fun t ht => (by cases ht), fun i' T' cs' v' hbx => ⟨fun heq => ?_, fun j d hj => (by cases hj)⟩, fun i' hbx => ⟨fun heq => ?_, fun k hk => (by cases hk)⟩⟩ <;>
       ·injection heq with heq
        subst heq
        simp [Env.set, PV.isR] at hbx
      have h2 := h1.relabel (q' := .arg i) hfree q2
      obtain ⟨z, e2, g2, k1, k2, k3, k4, k5, k6⟩ := collect_sound ps xs (i + 1) h2 (by show RepC g0.fix W c cy cv; rw [f0']; exact hcv) hr1
      have hkeep : ∀ b j, g0.own b = some (.arg j) → (if b = (g.bx id).b then some (Lab.arg i) else g0.own b) = some (.arg j) := fun b j hbj => by
       have : ¬ b = (g.bx id).b := fun he => by subst he; rw [q2] at hbj; cases hbj
       simp [this, hbj]
      refine ⟨(y, z), e2, g2, k1, k2, k3.trans f0', k4.trans f1', ⟨⟨(g.bx id).b, vs, hv, q1, k6 _ _ (by simp), fun o ho => q3 o (by rw [k3] at ho; exact ho), ?_, ?_⟩, k5⟩, fun b j hbj => k6 b j (hkeep b j (s8 b _ (fun m hm => by cases hm) hbj))⟩
      ·rw [k3]
       show Rep g0.fix W t y vs.toList
       rw [f0', s2]; exact s6
      ·intro k e3 r3 y3 tip hd
       obtain ⟨m1, m2, u, m3, m4⟩ := s7 k e3 r3 y3 tip hd
       rw [Nat.zero_add] at m1 m4
       refine ⟨m1, m2, u, by rw [s2]; exact m3, ?_⟩
       rw [k3]
       exact m4.keep fun b hb => k6 b _ (hkeep b _ hb)
     ·simp [Prog.run] at hr1
    ·simp [Prog.run] at hr1
   ·simp [Prog.run] at hr1
  ·simp [Prog.run] at hr1
theorem BackRep.keep {fix : Nat → Nat → Prop} {own own' : Nat → Option Lab} : ∀ (ps : List Md) (m : Nat) (zz : (tupTy (ps.filter Md.isBox)).D) (vs : List Value), m + ps.length ≤ 1000000 → (∀ b j, m ≤ argOf j → own b = some (.arg j) → own' b = some (.arg j)) → BackRep fix own W m ps zz vs → BackRep fix own' W m ps zz vs := by
 intro ps
 induction ps with
 | nil => intro m zz vs _ _ _; trivial
 | cons md ps ih =>
  intro m zz vs hm hk hh
  simp only [List.length_cons] at hm
  have hk' : ∀ b j, m + 1 ≤ argOf j → own b = some (.arg j) → own' b = some (.arg j) := fun b j hj => hk b j (by omega)
  have hm' : m + 1 + ps.length ≤ 1000000 := by omega
  have hmm : m ≤ argOf m := by rw [argOf_small (by omega)]; exact Nat.le_refl _
  cases md <;> cases vs <;> try exact hh
  ·exact ih _ _ _ hm' hk' hh
  ·exact ih _ _ _ hm' hk' hh
  ·obtain ⟨⟨B2, us2, c1, c2, c3, c4, c5, c7⟩, c6⟩ := hh
   exact ⟨⟨B2, us2, c1, c2, hk _ _ hmm c3, c4, c5, c7.keep fun b k hk1 hb => hk b _ (by rw [argOf_lk hk1]; exact Nat.le_refl _) hb⟩, ih _ _ _ hm' hk' c6⟩
  ·exact ih _ _ _ hm' hk' hh
  ·exact ih _ _ _ hm' hk' hh
  ·exact ih _ _ _ hm' hk' hh
  ·exact ⟨hh.1.keep (fun b hb => hk _ _ hmm hb), ih _ _ _ hm' hk' hh.2⟩
  ·exact ih _ _ _ hm' hk' hh
theorem backCaps_sound {bxs : List Nat} {e' : Env} : ∀ (ps : List Md) (cv : List Value) (i : Nat) {e : Env} {g : Gh} {k : Prog} {z : (tupTy (ps.filter Md.isBox)).D}, BackRep g.fix g.own W i ps z cv →
  (backBoxes bxs ps [] z k).run e some = some e' → k.run e some = some e'
 | [], _, _, _, _, _, _, _, hr => hr
 | .cap _ :: ps, v :: cv, i, e, g, k, z, hb, hr => backCaps_sound ps cv (i + 1) (z := z) (k := k) (g := g) hb hr
 | .cap _ :: ps, [], i, e, g, k, z, hb, hr => hb.elim
 | .val _ :: _, _, _, _, _, _, _, _, hr => by simp [backBoxes, Prog.run] at hr
 | .tip _ :: _, _, _, _, _, _, _, _, hr => by simp [backBoxes, Prog.run] at hr
 | .box _ _ :: _, _, _, _, _, _, _, _, hr => by simp [backBoxes, Prog.run] at hr
 | .nilp s :: _, _, _, _, _, _, _, _, hr => by simp [backBoxes, Prog.run] at hr
 | .full _ _ :: _, _, _, _, _, _, _, _, hr => by simp [backBoxes, Prog.run] at hr
 | .own _ _ :: _, _, _, _, _, _, _, _, hr => by simp [backBoxes, Prog.run] at hr
 | .take _ _ :: _, _, _, _, _, _, _, _, hr => by simp [backBoxes, Prog.run] at hr
 | .str _ :: _, _, _, _, _, _, _, _, hr => by simp [backBoxes, Prog.run] at hr
theorem backBoxes_sound {bxs : List Nat} {e' : Env} {cv : List Value} : ∀ (ps : List Md) (xs : List Operand) (i : Nat) {e : Env} {g : Gh} {k : Prog} {z : (tupTy (ps.filter Md.isBox)).D}, i + ps.length ≤ 1000000 → St w0 T f0 n e a W g → BackRep g.fix g.own W i ps z (xs.map a.eval ++ cv) →
  (backBoxes bxs ps xs z k).run e some = some e' → ∃ e1 g1, k.run e1 some = some e' ∧ St w0 T f0 n e1 a W g1 ∧ g1.fix = g.fix ∧ ∀ b j, (argOf j < i ∨ i + ps.length ≤ argOf j) → g.own b = some (.arg j) → g1.own b = some (.arg j)
 | [], xs, i, e, g, k, z, hlen, h, hb, hr => by
  refine ⟨e, g, ?_, h, rfl, fun _ _ _ h => h⟩
  cases xs <;> exact hr
 | .cap t :: ps, [], i, e, g, k, z, hlen, h, hb, hr => ⟨e, g, backCaps_sound (.cap t :: ps) cv i hb hr, h, rfl, fun _ _ _ h => h⟩
 | .val t :: ps, [], i, e, g, k, z, hlen, h, hb, hr => by simp [backBoxes, Prog.run] at hr
 | .tip t :: ps, [], i, e, g, k, z, hlen, h, hb, hr => by simp [backBoxes, Prog.run] at hr
 | .box B t :: ps, [], i, e, g, k, z, hlen, h, hb, hr => by simp [backBoxes, Prog.run] at hr
 | .nilp s :: ps, [], i, e, g, k, z, hlen, h, hb, hr => by simp [backBoxes, Prog.run] at hr
 | .full _ _ :: ps, [], i, e, g, k, z, hlen, h, hb, hr => by simp [backBoxes, Prog.run] at hr
 | .own _ _ :: ps, [], i, e, g, k, z, hlen, h, hb, hr => by simp [backBoxes, Prog.run] at hr
 | .take _ _ :: ps, [], i, e, g, k, z, hlen, h, hb, hr => by simp [backBoxes, Prog.run] at hr
 | .str _ :: ps, [], i, e, g, k, z, hlen, h, hb, hr => by simp [backBoxes, Prog.run] at hr
 | .str _ :: ps, _ :: _, i, e, g, k, z, hlen, h, hb, hr => by simp [backBoxes, Prog.run] at hr
 | .take _ _ :: ps, x :: xs, i, e, g, k, z, hlen, h, hb, hr => by
  simp only [List.length_cons] at hlen
  obtain ⟨e1, g1, k1, k2, k3, k5⟩ := backBoxes_sound ps xs (i + 1) (z := z) (by omega) h hb hr
  exact ⟨e1, g1, k1, k2, k3, fun b j hj hbj => k5 b j (by simp only [List.length_cons] at hj; omega) hbj⟩
 | .own el r :: ps, x :: xs, i, e, g, k, z, hlen, h, hb, hr => by
  obtain ⟨hrow, hb'⟩ := hb
  simp only [backBoxes] at hr
  obtain ⟨pv, hr1, hdat, hp⟩ := getV_sound h hr
  split at hr1
  ·rename_i j hv
   simp only [Prog.run] at hr1
   split at hr1
   ·rename_i r' m hv' ver hbx
    obtain ⟨hveq, hr2⟩ := chk_run hr1
    have hveq := Nat.eq_of_beq_eq_true hveq
    subst hveq
    obtain ⟨hrr, hr3⟩ := chk_run hr2
    obtain ⟨hrr, hpl⟩ := (Bool.and_eq_true _ _).mp hrr
    have hrr : r' = r := by simpa [eqTy] using hrr
    split at hr3
    ·simp only [Prog.run] at hr3
     have hvv : a.eval x = (g.bx j).h := by
      have hp' : HOk (e (.box j)) (g.bx j) hv (a.eval x) := hp
      rw [hbx] at hp'
      exact hp'.2 rfl
     have hrow' : RowAt g.fix g.own W (.arg i) (g.bx j).h el r z.1 := by rw [← hvv]; exact hrow
     obtain ⟨g1, f1, f2, h1, hkeep⟩ := h.unlend hbx (free_arg e i) hrow' hrr hpl (ver + 1) (Nat.lt_succ_self _)
     have hk1 : ∀ b j, j ≠ i → g.own b = some (.arg j) → g1.own b = some (.arg j) := fun b j hj hbj => hkeep b _ (fun hh => by injection hh with hh; exact hj hh) hbj
     simp only [List.length_cons] at hlen
     have hai : argOf i = i := argOf_small (by omega)
     obtain ⟨e1, g2, k1, k2, k3, k5⟩ := backBoxes_sound ps xs (i + 1) (z := z.2) (by omega) h1 (by rw [f1]; exact hb'.keep _ _ _ _ (by omega) (fun b j hj hbj => hk1 b j (fun hh => by subst hh; omega) hbj)) hr3
     exact ⟨e1, g2, k1, k2, k3.trans f1, fun b j hj hbj => k5 b j (by simp only [List.length_cons] at hj; omega) (hk1 b j (fun hh => by subst hh; simp only [List.length_cons] at hj; omega) hbj)⟩
    ·simp [Prog.run] at hr3
   ·simp [Prog.run] at hr1
  ·simp [Prog.run] at hr1
 | .full _ _ :: ps, _ :: _, i, e, g, k, z, hlen, h, hb, hr => by simp [backBoxes, Prog.run] at hr
 | .cap _ :: ps, _ :: _, i, e, g, k, z, hlen, h, hb, hr => by simp [backBoxes, Prog.run] at hr
 | .nilp s :: ps, x :: xs, i, e, g, k, z, hlen, h, hb, hr => by
  simp only [List.length_cons] at hlen
  obtain ⟨e1, g1, k1, k2, k3, k5⟩ := backBoxes_sound ps xs (i + 1) (z := z) (by omega) h hb hr
  exact ⟨e1, g1, k1, k2, k3, fun b j hj hbj => k5 b j (by simp only [List.length_cons] at hj; omega) hbj⟩
 | .val t :: ps, x :: xs, i, e, g, k, z, hlen, h, hb, hr => by
  simp only [List.length_cons] at hlen
  obtain ⟨e1, g1, k1, k2, k3, k5⟩ := backBoxes_sound ps xs (i + 1) (z := z) (by omega) h hb hr
  exact ⟨e1, g1, k1, k2, k3, fun b j hj hbj => k5 b j (by simp only [List.length_cons] at hj; omega) hbj⟩
 | .tip t :: ps, x :: xs, i, e, g, k, z, hlen, h, hb, hr => by
  simp only [List.length_cons] at hlen
  obtain ⟨e1, g1, k1, k2, k3, k5⟩ := backBoxes_sound ps xs (i + 1) (z := z) (by omega) h hb hr
  exact ⟨e1, g1, k1, k2, k3, fun b j hj hbj => k5 b j (by simp only [List.length_cons] at hj; omega) hbj⟩
 | .box B t :: ps, x :: xs, i, e, g, k, z, hlen, h, hb, hr => by
  obtain ⟨⟨Bk, us, b1, b2, b3, b4, b5, b6⟩, hb'⟩ := hb
  simp only [backBoxes] at hr
  obtain ⟨pv, hr1, hdat, hp⟩ := getV_sound h hr
  split at hr1
  ·rename_i id
   simp only [Prog.run] at hr1
   split at hr1
   ·rename_i B' ver hbx
    split at hr1
    ·have hv : a.eval x = .pointer (some ⟨(g.bx id).b, 0, none⟩) := hdat
     have hBk : Bk = (g.bx id).b := by
      have b1' : a.eval x = .pointer (some ⟨Bk, 0, none⟩) := b1
      rw [hv] at b1'
      injection b1' with b1'
      injection b1' with b1'
      injection b1' with b1'
      exact b1'.symm
     subst hBk
     simp only [List.length_cons] at hlen
     have hai : argOf i = i := argOf_small (by omega)
     have hcells := Cells.split _ _ _ b5
     obtain ⟨e0, g0, hr2, h0, s1, s2, s3, s4, s5⟩ := backK_sound (p := i) (t.split z.1) us.toList 0 h (fun j => by rw [hbx]; rfl) hcells.len (fun j e2 r2 y2 tip hd => by
      obtain ⟨-, -, u, m1, m2⟩ := b6 j e2 r2 y2 tip hd
      exact ⟨u, m1, by rw [Nat.zero_add]; exact m2⟩) hr1
     simp only [Prog.run] at hr2
     obtain ⟨t1, t2⟩ := s2 id (fun j _ hh => lk_ne id j hh.symm)
     rw [hbx] at t2
     have b3' : g0.own (g0.bx id).b = some (.arg i) := by rw [t1]; exact s5 _ _ (fun j hj hh => by injection hh with hh; have := lk_ge i j; omega) b3
     have h1 := h0.relabel (q' := .box id) (free_arg e0 i) b3'
     have h2 := h1.setBoxL (i := id) (pv := .box B (lnkCells (t.split z.1)) (ver + 1)) ⟨us, by rw [t1]; exact b2, by simp, by rw [t1]; show ∀ o, ¬ g0.fix _ o; rw [s1]; exact b4, by show Cells g0.fix W _ _; rw [s1]; exact hcells.lnk, fun j d hd ht => by
      have := lnkCells_tip (split_tips t z.1) d (List.mem_of_getElem? hd)
      rw [this] at ht; cases ht⟩ (.plain (fun _ => rfl) (by rw [t2]; rfl)) (fun i' k' q1 q2 => by
       have hkid : ¬ lk i' k' = id := fun hh => by rw [hh] at q2; simp [Env.set, PV.there] at q2
       have q2' : (e0 (.box (lk i' k'))).there = true := by simpa [Env.set, hkid] using q2
       by_cases hi : i' = id
       ·subst hi
        simp only [Env.set, if_true] at q1
        obtain ⟨m0, B2, cs2, ver2, m1, m2⟩ := lnkAt_iff.1 q1
        cases m1
        obtain ⟨d, m3, -⟩ := lnkCells_get m2
        have hlt := (List.getElem?_eq_some_iff.1 m3).1
        rw [hcells.len] at hlt
        have := s4 k' _ m2 (List.getElem?_eq_getElem hlt) (by rw [Nat.zero_add]; exact q2')
        rw [Nat.zero_add] at this
        show W.cell? ⟨(g0.bx i').b, k', none⟩ = some (g0.bx (lk i' k')).h
        rw [this, t1, cell_of_heap b2]
        simp
       ·have q1' : (e0 (.box i')).lnkAt k' = true := by simpa [Env.set, hi] using q1
        exact h0.lnks i' k' q1' q2')
     have hkeep : ∀ b j, argOf j ≠ i → g.own b = some (.arg j) → (if b = (g0.bx id).b then some (Lab.box id) else g0.own b) = some (.arg j) := fun b j hj hbj => by
      have h5 := s5 b (.arg j) (fun jj hjj hh => by injection hh with hh; subst hh; rw [argOf_lk hjj] at hj; exact hj rfl) hbj
      have : ¬ b = (g0.bx id).b := fun he => by subst he; rw [b3'] at h5; injection h5 with h5; injection h5 with h5; subst h5; exact hj hai
      simp [this, h5]
     have hb2 : BackRep g0.fix (fun b => if b = (g0.bx id).b then some (Lab.box id) else g0.own b) W (i + 1) ps z.2 (xs.map a.eval ++ cv) := by
      rw [s1]; exact hb'.keep _ _ _ _ (by omega) fun b j hj hbj => hkeep b j (by omega) hbj
     obtain ⟨e1, g1, k1, k2, k3, k5⟩ := backBoxes_sound ps xs (i + 1) (z := z.2) (by omega) h2 hb2 hr2
     exact ⟨e1, g1, k1, k2, k3.trans s1, fun b j hj hbj => k5 b j (by simp only [List.length_cons] at hj; omega) (hkeep b j (by simp only [List.length_cons] at hj; omega) hbj)⟩
    ·simp [Prog.run] at hr1
   ·simp [Prog.run] at hr1
  ·simp [Prog.run] at hr1
theorem St.after (h : St w0 T f0 n e a W g) {W' : World} {fix' : Nat → Nat → Prop} {own' : Nat → Option Lab}
  (hA : After W W' g.fix fix' (fun b => match g.own b with | some (.arg j) => some (.arg j) | _ => none) own') :
  ∃ g', g'.fix = fix' ∧ g'.bx = g.bx ∧ (∀ b j, own' b = some (.arg j) → g'.own b = some (.arg j)) ∧ St w0 T f0 n e a W' g' := by
 let g' : Gh := ⟨fix', fun b => match own' b with | some (.arg j) => some (.arg j) | some _ => some (.arg 999) | none => (match g.own b with | some (.arg _) => none | x => x), g.bx⟩
 have hnone : ∀ b q, g.own b = some q → (∀ j, q ≠ .arg j) → (fun b => match g.own b with | some (.arg j) => some (Lab.arg j) | _ => none) b = none := fun b q hb hq => by
  simp only [hb]
  cases q <;> first | rfl | exact absurd rfl (hq _)
 have hm : Move (fun q => ∃ j, q = .arg j) W W' g g' := by
  refine ⟨hA.fixed, fun b q hb hx => ?_⟩
  have hn := hnone b q hb (fun j hj => hx ⟨j, hj⟩)
  have hlt := (h.ownNew b q hb).1
  have ho : own' b = none := by
   cases ho : own' b with
   | none => rfl
   | some q' => exact absurd hn ((hA.ownNew b q' ho).2 hlt)
  refine ⟨?_, hA.old b hlt hn, fun oo hoo => hA.fixNew b oo hlt hn hoo⟩
  simp only [g', ho, hb]
  cases q <;> first | rfl | exact absurd ⟨_, rfl⟩ hx
 have hT : ∀ b, b < w0.heap.size → ¬ T b → (fun b => match g.own b with | some (.arg j) => some (Lab.arg j) | _ => none) b = none := fun b hb ht => by
  cases hq : g.own b with
  | none => simp [hq]
  | some q => exact absurd ((h.ownNew b q hq).2 hb) ht
 refine ⟨g', rfl, rfl, fun b j hb => by simp only [g', hb], h.move hm (fun q ⟨j, hq⟩ => by rw [hq]; exact free_arg e j) (fun _ _ => rfl) hA.os hA.tape hA.output hA.size (fun b hb ht => hA.old b (Nat.lt_of_lt_of_le hb h.size) (hT b hb ht)) (fun b q hq => ?_) hA.fixLt (fun b oo hb ht hf => hA.fixNew b oo (Nat.lt_of_lt_of_le hb h.size) (hT b hb ht) hf)⟩
 cases ho : own' b with
 | some q' =>
  have := hA.ownNew b q' ho
  refine ⟨this.1, fun hb => ?_⟩
  by_cases ht : T b
  ·exact ht
  ·exact absurd (hT b hb ht) (this.2 (Nat.lt_of_lt_of_le hb h.size))
 | none =>
  simp only [g', ho] at hq
  cases hg : g.own b with
  | none => simp [hg] at hq
  | some q2 =>
   have := h.ownNew b q2 hg
   exact ⟨Nat.lt_of_lt_of_le this.1 hA.size, this.2⟩
theorem St.adopt (h : St w0 T f0 n e a W g) {d : Nat} (hdn : d < n) (hu : (e (.box d)).isBox = false) {B i : Nat} {us : Array Value} {t : TypeId} (hB : W.heap[B]? = some (.cells us t (0, 0))) (ho : g.own B = some (.arg i)) (hf : ∀ o, ¬ g.fix B o) {cs : List DV} (hc : Cells g.fix W cs us.toList) (ht : ∀ x ∈ cs, x.tip = false) (hfr : ∀ k, cellLnk cs k = true → (e (.box (lk d k))).there = false) (ver : Nat) :
  ∃ g', (g'.bx d).b = B ∧ St w0 T f0 n (e.set (.box d) (.box t cs ver)) a W g' := by
 have h1 := h.relabel (q' := .box d) (free_arg e i) ho
 let g' : Gh := { g with own := fun b => if b = B then some (.box d) else g.own b, bx := fun i => if i = d then ⟨B, undef, fun _ => undef⟩ else g.bx i }
 have h2 : St w0 T f0 n e a W g' := by
  refine h1.move (X := fun _ => False) ⟨fun b o hf => ⟨hf, fun _ h => h⟩, fun b q hb _ => ⟨hb, rfl, fun _ h => h⟩⟩ (fun _ hx => hx.elim) (fun i hi => ?_) rfl rfl rfl (Nat.le_refl _) (fun _ _ _ => rfl) h1.ownNew h1.fixLt (fun _ _ _ _ h => h)
  have : ¬ i = d := fun he => by
   subst he
   rcases hi with hi | hi
   ·rw [hu] at hi; cases hi
   ·have := h.nle; omega
  simp [g', this]
 have hbx : (g'.bx d).b = B := by simp [g']
 refine ⟨g', hbx, h2.setBoxL ⟨us, by rw [hbx]; exact hB, by rw [hbx]; simp [g'], by rw [hbx]; exact hf, hc, fun j x hx htip => ?_⟩ (.plain (fun hh => by rw [isBox_of_isCell hh] at hu; cases hu) (isRow_of_box hu)) (h2.lnks.newBox hfr)⟩
 have := ht x (List.mem_of_getElem? hx)
 rw [this] at htip; cases htip
theorem of_dat {g : Gh} {W : World} {t : Ty} {x : t.D} {v : Value} (h : VRep g.fix W t x v) : Dat g W (PV.of t x) v := by
 have hag := h.1
 cases t with
 | unit =>
  cases v <;> simp [Value.isAgg, Ty.isAgg] at hag
  have h2 := h.2
  rename_i cs
  exact ⟨cs, rfl, by have h3 : cs.toList = [] := h2; rw [h3]; trivial, fun j d hj => by simp at hj⟩
 | pair p q =>
  cases v <;> simp [Value.isAgg, Ty.isAgg] at hag
  rename_i cs
  exact ⟨cs, rfl, Cells.split _ _ _ h.2, split_nils _ _ _⟩
 | int k => exact val_dat h.1 (vrep_one h rfl)
 | bool => exact val_dat h.1 (vrep_one h rfl)
 | str => exact val_dat h.1 (vrep_one h rfl)
 | sl el r => exact val_dat h.1 (vrep_one h rfl)
 | any => exact val_dat h.1 (vrep_one h rfl)
 | clo q c => exact val_dat h.1 (vrep_one h rfl)
 | osl q c => exact val_dat h.1 (vrep_one h rfl)
theorem of_clear (t : Ty) (x : t.D) : (PV.of t x).clear = PV.of t x := by cases t <;> rfl
theorem of_ptr (e : Env) (t : Ty) (x : t.D) {g : Gh} {v : Value} : PtrOk e g (PV.of t x) v := by cases t <;> exact not_ptr rfl e
theorem RowAt.cell {fix : Nat → Nat → Prop} {own : Nat → Option Lab} {q : Lab} {v : Value} {el : TypeId} {r : Ty} {xs : List r.D} (h : RowAt fix own W q v el r xs) : Value.isAgg v = false ∧ v.oneCell' = true ∧ v.cells.toList = [v] := by
 obtain ⟨A, c, rfl, -⟩ := h
 exact ⟨rfl, by simp [Value.oneCell'], rfl⟩
theorem tupVals_rep {g : Gh} {W : World} : ∀ (rs : List Md) (x : (tupTy rs).D) (us : List Value) (l : List (Bool × List DV)), TupRep g.fix g.own W rs x us → tupVals rs x = some l →
  l.length = us.length ∧ ∀ (j : Nat) p, l[j]? = some p → ∃ u, us[j]? = some u ∧ Value.isAgg u = p.1 ∧ Cells g.fix W p.2 u.cells.toList
 | [], x, [], l, _, hl => by simp only [tupVals, Option.some.injEq] at hl; subst hl; exact ⟨rfl, fun j p h => by simp at h⟩
 | .val t :: rs, x, u :: us, l, h, hl => by
  simp only [tupVals] at hl
  split at hl
  ·rename_i l' hl'
   injection hl with hl
   subst hl
   obtain ⟨h1, h2⟩ := tupVals_rep rs x.2 us l' h.2 hl'
   refine ⟨by simp [h1], fun j p hp => ?_⟩
   cases j with
   | zero => simp at hp; subst hp; exact ⟨u, rfl, h.1.1, Cells.split _ _ _ h.1.2⟩
   | succ j => simpa using h2 j p (by simpa using hp)
  ·simp at hl
 | .own el r :: rs, x, u :: us, l, h, hl => by
  simp only [tupVals] at hl
  split at hl
  ·rename_i l' hl'
   injection hl with hl
   subst hl
   obtain ⟨h1, h2⟩ := tupVals_rep rs x.2 us l' h.2 hl'
   refine ⟨by simp [h1], fun j p hp => ?_⟩
   cases j with
   | zero =>
    simp at hp; subst hp
    obtain ⟨k1, k2, k3⟩ := h.1.cell
    exact ⟨u, rfl, k1, by rw [k3]; exact ⟨⟨u, rfl, k2⟩, trivial⟩⟩
   | succ j => simpa using h2 j p (by simpa using hp)
  ·simp at hl
 | [], _, _ :: _, _, h, _ => h.elim
 | .val _ :: _, _, [], _, h, _ => h.elim
 | .own _ _ :: _, _, [], _, h, _ => h.elim
 | .tip _ :: _, _, [], _, h, _ => h.elim
 | .box _ _ :: _, _, [], _, h, _ => h.elim
 | .nilp s :: _, _, [], _, h, _ => h.elim
 | .nilp s :: _, _, _ :: _, _, h, _ => h.elim
 | .tip _ :: _, _, _ :: _, _, h, _ => h.elim
 | .box _ _ :: _, _, _ :: _, _, h, _ => h.elim
 | .cap _ :: _, _, [], _, h, _ => h.elim
 | .cap _ :: _, _, _ :: _, _, h, _ => h.elim
 | .full _ _ :: _, _, [], _, h, _ => h.elim
 | .full _ _ :: _, _, _ :: _, _, h, _ => h.elim
 | .take _ _ :: _, _, [], _, h, _ => h.elim
 | .take _ _ :: _, _, _ :: _, _, h, _ => h.elim
 | .str _ :: _, _, [], _, h, _ => h.elim
 | .str _ :: _, _, _ :: _, _, h, _ => h.elim
theorem ownAt_rep {g : Gh} {W : World} : ∀ (rs : List Md) (x : (tupTy rs).D) (us : List Value) (m i : Nat) (el : TypeId) (r : Ty) (xs : List r.D), TupRep g.fix g.own W rs x us → ownAt m rs x = some (i, ⟨el, r, xs⟩) →
  ∃ u, m ≤ i ∧ us[i - m]? = some u ∧ RowAt g.fix g.own W (.arg 1000000) u el r xs
 | [], _, _, _, _, _, _, _, _, h => by cases h
 | .own e1 r1 :: rs, x, u :: us, m, i, el, r, xs, ht, h => by
  simp only [ownAt, Option.some.injEq, Prod.mk.injEq] at h
  obtain ⟨h1, h2⟩ := h
  subst h1
  injection h2 with h2 h3
  subst h2
  injection h3 with h3 h4
  subst h3
  have h4 := eq_of_heq h4
  subst h4
  exact ⟨u, Nat.le_refl _, by simp, ht.1⟩
 | .val _ :: rs, x, u :: us, m, i, el, r, xs, ht, h => by
  obtain ⟨u', k1, k2, k3⟩ := ownAt_rep rs x.2 us (m + 1) i el r xs ht.2 h
  refine ⟨u', by omega, ?_, k3⟩
  have : i - m = (i - (m + 1)) + 1 := by omega
  rw [this]; simpa using k2
 | .val _ :: _, _, [], _, _, _, _, _, h, _ => h.elim
 | .own _ _ :: _, _, [], _, _, _, _, _, h, _ => h.elim
 | .tip _ :: _, _, [], _, _, _, _, _, h, _ => h.elim
 | .box _ _ :: _, _, [], _, _, _, _, _, h, _ => h.elim
 | .nilp s :: _, _, [], _, _, _, _, _, h, _ => h.elim
 | .nilp s :: _, _, _ :: _, _, _, _, _, _, h, _ => h.elim
 | .tip _ :: _, _, _ :: _, _, _, _, _, _, h, _ => h.elim
 | .box _ _ :: _, _, _ :: _, _, _, _, _, _, h, _ => h.elim
 | .cap _ :: _, _, [], _, _, _, _, _, h, _ => h.elim
 | .cap _ :: _, _, _ :: _, _, _, _, _, _, h, _ => h.elim
 | .full _ _ :: _, _, [], _, _, _, _, _, h, _ => h.elim
 | .full _ _ :: _, _, _ :: _, _, _, _, _, _, h, _ => h.elim
 | .take _ _ :: _, _, [], _, _, _, _, _, h, _ => h.elim
 | .take _ _ :: _, _, _ :: _, _, _, _, _, _, h, _ => h.elim
 | .str _ :: _, _, [], _, _, _, _, _, h, _ => h.elim
 | .str _ :: _, _, _ :: _, _, _, _, _, _, h, _ => h.elim
theorem placed_hdr {d hv ver : Nat} {el : TypeId} {r : Ty} {xs : List r.D} {g : Gh} {v : Value} (hv' : (g.bx d).h = v) : PtrOk (e.set (.box d) (.row el r xs hv ver)) g (.hdr d hv) v := by
 show HOk ((e.set (.box d) (.row el r xs hv ver)) (.box d)) (g.bx d) hv v
 simp only [Env.set, if_true]
 exact ⟨Nat.le_refl _, fun _ => hv'.symm⟩
theorem putRow_sound (h : St w0 T f0 G.n e a W g) {d : Nat} (hdn : d < G.n) {q : Lab} (hq : Free e q) {v : Value} {el : TypeId} {r : Ty} {xs : List r.D} (hrow : RowAt g.fix g.own W q v el r xs) {e' : Env} (hr : (putRow d el r xs).run e some = some e') :
  ∃ g', St w0 T f0 G.n e' (a.put (some d) v) W g' := by
 obtain ⟨hv, ver, g1, k1, k2, k3, k4⟩ := placeRow_sound h hdn hq hrow hr
 simp only [Prog.run, Option.some.injEq] at k1
 rw [← k1]
 exact ⟨g1, k2.put hdn (pv := .hdr d hv) (v := v) trivial (placed_hdr k4)⟩
theorem oslAt_spec : ∀ {l : List DV} {m k : Nat} {el : TypeId} {r : Ty} {xs : List r.D}, oslAt l m = some (k, ⟨el, r, xs⟩) → m ≤ k ∧ ∃ tip, l[k - m]? = some ⟨.osl el r, xs, tip⟩
 | [], _, _, _, _, _, h => by cases h
 | ⟨t, x, tip⟩ :: l, m, k, el, r, xs, h => by
  have rest : oslAt l (m + 1) = some (k, ⟨el, r, xs⟩) → m ≤ k ∧ ∃ tip', (⟨t, x, tip⟩ :: l)[k - m]? = some ⟨.osl el r, xs, tip'⟩ := fun h => by
   obtain ⟨h1, tip', h2⟩ := oslAt_spec h
   refine ⟨by omega, tip', ?_⟩
   rw [show k - m = (k - (m + 1)) + 1 by omega]
   simpa using h2
  cases t <;> try exact rest h
  simp only [oslAt, Option.some.injEq, Prod.mk.injEq] at h
  obtain ⟨h1, h2⟩ := h
  subst h1
  injection h2 with h2 h3
  subst h2
  injection h3 with h3 h4
  subst h3
  have h4 := eq_of_heq h4
  subst h4
  exact ⟨Nat.le_refl _, tip, by simp⟩
theorem oneRes_sound (h : St w0 T f0 G.n e a W g) {dst : Option Nat} (hd : dstOk G.n dst = true) {rs : List Md} {x : (tupTy rs).D} {v : Value} (hv : ResRep g.fix g.own W rs x v) {e' : Env} (hr : (oneRes dst rs x).run e some = some e') :
  ∃ g', St w0 T f0 G.n e' (a.put dst v) W g' := by
 have tup : ∀ (rs : List Md) (x : (tupTy rs).D), (∃ us, v = .tuple us ∧ TupRep g.fix g.own W rs x us.toList) → (tupPut dst rs x).run e some = some e' → ∃ g', St w0 T f0 G.n e' (a.put dst v) W g' := by
  intro rs x ⟨us, hvu, ht⟩ hr
  unfold tupPut at hr
  split at hr
  ·rename_i l hl
   obtain ⟨h1, h2⟩ := tupVals_rep rs x us.toList l ht hl
   split at hr
   ·rw [put_run hr]
    refine ⟨g, h.putDat hd ⟨us, hvu, by simpa using h1, fun j p hp => ?_⟩ rfl (not_ptr rfl e)⟩
    obtain ⟨u, k1, k2, k3⟩ := h2 j p hp
    exact ⟨u, by simpa using k1, k2, k3⟩
   ·rename_i i el r xs how
    obtain ⟨-, hr⟩ := chk_run hr
    cases dst with
    | some d =>
     obtain ⟨u, -, ku, hrow⟩ := ownAt_rep rs x us.toList 0 i el r xs ht how
     obtain ⟨hv, ver, g1, k1, k2, k3, k4⟩ := placeRow_sound h (dst_lt hd d rfl) (free_arg e 1000000) hrow hr
     simp only [Prog.run, Option.some.injEq] at k1
     rw [← k1]
     refine ⟨g1, k2.put (dst_lt hd d rfl) (pv := .tupr l i d hv) (v := v) ⟨us, hvu, by simpa using h1, fun j p hp => ?_⟩ ⟨us, u, hvu, by simpa using ku, (placed_hdr (e := e) (xs := xs) (ver := ver) k4 : PtrOk _ g1 (.hdr d hv) u)⟩⟩
     obtain ⟨u, m1, m2, m3⟩ := h2 j p hp
     exact ⟨u, by simpa using m1, m2, by rw [k3]; exact m3⟩
    | none => simp [Prog.run] at hr
  ·simp [Prog.run] at hr
 match rs, x, hv, hr with
 | [], x, hv, hr => exact tup [] x hv hr
 | [.nilp s], x, hv, hr => exact tup [.nilp s] x hv hr
 | [.cap t], x, hv, hr => exact tup [.cap t] x hv hr
 | [.full t b], x, hv, hr => exact tup [.full t b] x hv hr
 | [.take el r], x, hv, hr => exact tup [.take el r] x hv hr
 | [.val t], x, hv, hr =>
  rw [put_run hr]
  exact ⟨g, h.putDat hd (of_dat hv) (of_clear _ _) (of_ptr _ _ _)⟩
 | [.own el r], x, hv, hr =>
  cases dst with
  | none => simp [oneRes, Prog.run] at hr
  | some d => exact putRow_sound h (dst_lt hd d rfl) (free_arg e 1000000) hv hr
 | [.str t], x, hv, hr =>
  obtain ⟨us, hvu, hrep, hsub⟩ := hv
  cases dst with
  | none => simp [oneRes, Prog.run] at hr
  | some d =>
   simp only [oneRes] at hr
   cases ho : oslAt (t.split x.1) 0 with
   | none => simp [ho, Prog.run] at hr
   | some p =>
    obtain ⟨k, el, r, xs⟩ := p
    simp only [ho] at hr
    obtain ⟨-, hr⟩ := chk_run hr
    obtain ⟨-, tip, hget⟩ := oslAt_spec ho
    obtain ⟨hk, hpl, u, hu, hrow⟩ := hsub k el r xs tip (by simpa using hget)
    obtain ⟨hv, ver, g1, k1, k2, k3, k4⟩ := placeRow_sound h (dst_lt hd d rfl) (free_arg e 1000000) hrow hr
    simp only [Prog.run, Option.some.injEq] at k1
    rw [← k1]
    refine ⟨g1, k2.put (dst_lt hd d rfl) (pv := .aggh (lnkCells (t.split x.1)) [(k, (d, hv))]) (v := v) ⟨us, hvu, by rw [k3]; exact (Cells.split _ _ _ hrep).lnk, .of_clear (lnkCells_tip (split_tips t _))⟩ ⟨us, hvu, fun h' hm => ?_⟩⟩
    have hm := List.mem_singleton.1 hm
    subst hm
    exact ⟨u, by simpa using hu, (placed_hdr (e := e) (xs := xs) (ver := ver) k4 : PtrOk _ g1 (.hdr d hv) u)⟩
 | [.tip (.sl el r)], x, hv, hr =>
  rw [put_run hr]
  obtain ⟨h1, h2, h3⟩ := hv
  obtain ⟨g', k1, k2, k3, k4⟩ := h.retip (.slot (dst.getD 0)) (free_arg e _) h3
  exact ⟨g', k3.putDst hd (fun d hd' => ⟨h1, by rw [k1]; exact h2, fun _ => by rw [hd'] at k4; exact k4⟩) (not_ptr rfl e)⟩
 | [.tip .unit], x, hv, hr => exact (by have := hv.2.2; simp [Tip] at this)
 | [.tip (.int k)], x, hv, hr => exact (by have := hv.2.2; simp [Tip] at this)
 | [.tip .bool], x, hv, hr => exact (by have := hv.2.2; simp [Tip] at this)
 | [.tip .str], x, hv, hr => exact (by have := hv.2.2; simp [Tip] at this)
 | [.tip .any], x, hv, hr => exact (by have := hv.2.2; simp [Tip] at this)
 | [.tip (.clo _ _)], x, hv, hr => exact (by have := hv.2.2; simp [Tip] at this)
 | [.tip (.pair p q)], x, hv, hr => exact (by have := hv.2.2; simp [Tip] at this)
 | [.box B t], x, hv, hr =>
  obtain ⟨Bk, us, b1, b2, b3, b4, b5⟩ := hv
  cases dst with
  | none => simp [oneRes, Prog.run] at hr
  | some d =>
   simp only [oneRes] at hr
   obtain ⟨hr, hfr⟩ := freeK_run _ 0 hr
   simp only [Prog.run] at hr
   split at hr
   ·rename_i hu
    simp only [Prog.run, Option.some.injEq] at hr
    obtain ⟨g', k1, k2⟩ := h.adopt (d := d) (dst_lt hd d rfl) (by rw [hu]; rfl) b2 b3 b4 (Cells.split _ _ _ b5) (split_tips t _) (fun k hk => by have := hfr k hk; rwa [Nat.zero_add] at this) 0
    rw [← hr]
    refine ⟨g', k2.put (dst_lt hd d rfl) ?_ ?_⟩
    ·show _ = _
     rw [b1, k1]
    ·simp [PtrOk, Env.set, PV.isCell]
   ·simp [Prog.run] at hr
 | m1 :: m2 :: rs, x, hv, hr =>
  cases m1 with
  | tip t => cases t <;> cases m2 <;> exact tup _ x hv hr
  | _ => cases m2 <;> exact tup _ x hv hr
theorem TupRep.keep {fix : Nat → Nat → Prop} {own own' : Nat → Option Lab} {W : World} (hk : ∀ b, own b = some (.arg 1000000) → own' b = some (.arg 1000000)) : ∀ {rs : List Md} {x : (tupTy rs).D} {vs : List Value}, TupRep fix own W rs x vs → TupRep fix own' W rs x vs := by
 intro rs
 induction rs with
 | nil => intro x vs h; cases vs <;> exact h
 | cons m rs ih =>
  intro x vs h
  cases m <;> cases vs <;> try exact h
  ·exact ⟨h.1, ih h.2⟩
  ·exact ⟨h.1.keep hk, ih h.2⟩
theorem ResRep.keep {fix fix' : Nat → Nat → Prop} {own own' : Nat → Option Lab} {W : World} (hk : ∀ b, own b = some (.arg 1000000) → own' b = some (.arg 1000000)) (hf : fix = fix') {rs : List Md} {x : (tupTy rs).D} {v : Value} (h : ResRep fix own W rs x v) : ResRep fix' own' W rs x v := by
 subst hf
 have tup : ∀ (rs : List Md) (x : (tupTy rs).D), (∃ us, v = .tuple us ∧ TupRep fix own W rs x us.toList) → ∃ us, v = .tuple us ∧ TupRep fix own' W rs x us.toList := fun rs x ⟨us, h1, h2⟩ => ⟨us, h1, h2.keep hk⟩
 match rs, x, h with
 | [], x, h => exact tup _ x h
 | [.nilp s], x, h => exact tup _ x h
 | [.cap t], x, h => exact tup _ x h
 | [.full t b], x, h => exact tup _ x h
 | [.take el r], x, h => exact tup _ x h
 | [.val t], x, h => exact h
 | [.own el r], x, h => exact RowAt.keep (W := W) h hk
 | [.str t], x, h =>
  obtain ⟨us, b1, b2, b3⟩ := h
  exact ⟨us, b1, b2, b3.keep fun b k _ hb => hk b hb⟩
 | [.tip t], x, h =>
  obtain ⟨h1, h2, h3⟩ := h
  refine ⟨h1, h2, ?_⟩
  cases t <;> simp only [Tip] at h3 ⊢
  rcases h3 with h3 | ⟨b, m, cap, cur, k1, k2, k3, k4, k5, k6, k7⟩
  ·exact .inl h3
  ·exact .inr ⟨b, m, cap, cur, k1, k2, k3, k4, k5, hk _ k6, k7⟩
 | [.box B t], x, h =>
  obtain ⟨Bk, us, b1, b2, b3, b4, b5⟩ := h
  exact ⟨Bk, us, b1, b2, hk _ b3, b4, b5⟩
 | m1 :: m2 :: rs, x, h => cases m1 <;> cases m2 <;> exact tup _ x h
theorem argKey_run {n : Nat} (h : St w0 T f0 n e a W g) {xs : List Operand} {f : Nat} {k : Nat → Prog} {e' : Env} (hr : (argKey xs f k).run e some = some e') : ∃ key, (∃ m, key = f + 1000000 * m) ∧ (k key).run e some = some e' := by
 induction xs with
 | nil => exact ⟨f, ⟨0, rfl⟩, hr⟩
 | cons x xs ih =>
  simp only [argKey] at hr
  obtain ⟨pv, hr1, -, -⟩ := getV_sound h hr
  split at hr1
  ·exact ⟨_, ⟨1, rfl⟩, hr1⟩
  ·exact ⟨_, ⟨_, rfl⟩, hr1⟩
  ·exact ⟨_, ⟨_, rfl⟩, hr1⟩
  ·exact ⟨_, ⟨1000000, rfl⟩, hr1⟩
  ·exact ih hr1
theorem sound_callP {c : Call} {x : Operand} {f : FuncId} {ct : Ty} {cy : ct.D} {cv : List Value} (hF : ∀ f S, look f G.fns = some S → FOk P (f % 1000000) S) (ho : o.op = .call c) (hc : c.callee = .value x) {e' : Env} {K : Act → World → Prop} {Q : Exit → Act → World → Prop}
  (h : St w0 T f0 G.n e a W g) (hd : dstOk G.n o.dst = true) (hv : a.eval x = .func (.func f) #[] cv.toArray) (hcv : RepC g.fix W ct cy cv) (hr1 : (callP G o.dst c.args.toList f ct cy).run e some = some e') (hK : ∀ a' W' g', St w0 T f0 G.n e' a' W' g' → K a' W') : o.wp P a W K Q := by
  unfold callP at hr1
  obtain ⟨hfl, hr1⟩ := chk_run hr1
  have hfl : f < 1000000 := by simpa using hfl
  obtain ⟨key, ⟨km, hkey⟩, hr1⟩ := argKey_run h hr1
  split at hr1
  ·rename_i S hS
   obtain ⟨hps, hr1⟩ := chk_run hr1
   have hps := Nat.le_of_ble_eq_true hps
   have hF := hF key S hS
   have hkm : key % 1000000 = f := by
    rw [hkey, Nat.add_mul_mod_self_left]; exact Nat.mod_eq_of_lt hfl
   rw [hkm] at hF
   obtain ⟨z, e1, g1, k1, k2, k3, k4, k5, k6⟩ := collect_sound (bxs := G.bxs) S.ps c.args.toList 0 h hcv hr1
   simp only [Prog.run] at k1
   cases hz : S.run z with
   | none => rw [hz] at k1; simp at k1
   | some r =>
    rw [hz] at k1
    simp only [Option.bind_some] at k1
    obtain ⟨fn, n1, n2, n3⟩ := hF.fn
    have hargs : ArgsRep g1.fix (fun b => match g1.own b with | some (.arg j) => some (.arg j) | _ => none) W 0 S.ps z (c.args.toList.map a.eval ++ cv) := k5.keep (fun b j hb => by simp only [hb])
    have hcalls := hF.run z r W g1.fix (fun b => match g1.own b with | some (.arg j) => some (.arg j) | _ => none) (c.args.toList.map a.eval ++ cv) hz k2.fixLt (fun b q hb => by
     cases hq : g1.own b with
     | none => simp [hq] at hb
     | some q' => exact (k2.ownNew b q' hq).1) hargs
    have hbody : fn.body.isNone = false := by cases hb : fn.body with
     | none => rw [hb] at n2; cases n2
     | some _ => rfl
    have hmap : (c.args.toList.map a.eval ++ cv).toArray = c.args.map a.eval ++ cv.toArray := by apply Array.ext'; simp
    unfold Oper.wp
    have hex : (execOp a.eval o).run P W = .ok (.enter f (c.args.map a.eval ++ cv.toArray)) W := by
     simp only [execOp, ho, resolve, hc, hv, Deferred.ofValue, invoke, callFunc, Sem.run_bind, Sem.run_pure, Result.andThen_ok, run_program, n1, n3, hbody]
     simp
    rw [hex]
    rw [hmap] at hcalls
    refine Calls.mono hcalls fun en W' hen => ?_
    obtain ⟨v, fix', own', rfl, hA, hR, hB⟩ := hen
    obtain ⟨g2, q1, q2, q3, q4⟩ := k2.after hA
    have hB2 : BackRep g2.fix g2.own W' 0 S.ps (splitR S.rs (S.ps.filter Md.isBox) r).2 (c.args.toList.map a.eval ++ cv) := by
     rw [q1]
     exact hB.keep _ _ _ _ (by omega) fun b j _ hbj => q3 b j hbj
    obtain ⟨e3, g3, r1, r2, r3, r5⟩ := backBoxes_sound S.ps c.args.toList 0 (by omega) q4 hB2 k1
    have hR2 := ResRep.keep (fun b hb => r5 b 1000000 (by rw [argOf_small (by omega)]; omega) (q3 b _ hb)) (q1.symm.trans r3.symm) hR
    obtain ⟨g4, hfin⟩ := oneRes_sound r2 hd hR2 r1
    exact hK _ _ _ hfin
  ·simp [Prog.run] at hr1
theorem sound_call {c : Call} {x : Operand} (hF : ∀ f S, look f G.fns = some S → FOk P (f % 1000000) S) (ho : o.op = .call c) (hc : c.callee = .value x) : Sound P G w0 T f0 o := by
 intro e e' a W g K Q h hd hr hK
 simp only [opV, ho, hc] at hr
 obtain ⟨pv, hr1, hdat, -⟩ := getV_sound h hr
 split at hr1
 ·rename_i f
  exact sound_callP (ct := .unit) (cv := []) hF ho hc h hd hdat (show RepC g.fix W .unit () [] from rfl) hr1 hK
 ·rename_i f ct cy tip
  obtain ⟨ps, hv, hps⟩ := hdat.2.1
  have hv : a.eval x = .func (.func f) #[] ps.toArray := by injection hv
  exact sound_callP hF ho hc h hd hv hps hr1 hK
 ·simp [Prog.run] at hr1
end
end Go.PM
