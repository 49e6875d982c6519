/- PM: closures: variables that are captured are frozen. -/
import Derived.Test.YtibkgmpfncacpaaPMCall
namespace Go.PM
open Go
section
variable {P : Program} {G : Ctx} {w0 : World} {T : Nat → Prop} {f0 : F0} {n : Nat} {e : Env} {a : Act} {W : World} {g : Gh} {o : Oper}
theorem St.freeze (h : St w0 T f0 n e a W g) {i : Nat} {B : TypeId} {cs : List DV} {ver : Nat} (hb : e (.box i) = .box B cs ver) :
  ∃ g', g'.bx = g.bx ∧ (∀ b o, g.fix b o → g'.fix b o) ∧ St w0 T f0 n (e.set (.box i) (.frz B (cs.map DV.clear) ver)) a W g' ∧
   ∃ vs : List Value, Cells g'.fix W cs vs ∧ ∀ (j : Nat) u, vs[j]? = some u → g'.fix (g.bx i).b j ∧ W.cell? ⟨(g.bx i).b, j, none⟩ = some u := by
 have hbr := h.boxes i
 rw [hb] at hbr
 obtain ⟨vs, k1, k2, k3, k4, k5⟩ := hbr
 have h1 : St w0 T f0 n (e.set (.box i) (.lent B ver)) a W g := h.setBox (pv := .lent B ver) trivial (fun _ => rfl) (by rw [hb]; rfl) (.out (fun _ => rfl) rfl)
 have hfree : Free (e.set (.box i) (.lent B ver)) (.box i) := by
  refine ⟨fun t ht => (by cases ht), fun i' T' cs' v' hbx => ⟨fun heq => ?_, fun j d hj => (by cases hj)⟩, fun i' hbx => ⟨fun heq => ?_, fun k hk => (by cases hk)⟩⟩ <;>
  ·injection heq with heq
   subst heq
   simp [Env.set, PV.isR] at hbx
 let g' : Gh := { g with fix := fun b o => g.fix b o ∨ b = (g.bx i).b }
 have h2 : St w0 T f0 n (e.set (.box i) (.lent B ver)) a W g' := by
  refine h1.move (X := fun q => q = .box i) ⟨fun b o hf => ⟨.inl hf, fun _ h => h⟩, fun b q hq hx => ⟨hq, rfl, fun o ho => ?_⟩⟩ (fun q hq => by rw [hq]; exact hfree) (fun _ _ => rfl) rfl rfl rfl (Nat.le_refl _) (fun _ _ _ => rfl) h1.ownNew (fun b o hf => ?_) (fun b o hb' ht hf => ?_)
  ·rcases ho with ho | ho
   ·exact ho
   ·subst ho; rw [k2] at hq; injection hq with hq; exact absurd hq.symm hx
  ·rcases hf with hf | hf
   ·exact h.fixLt b o hf
   ·subst hf; exact (h.ownNew _ _ k2).1
  ·rcases hf with hf | hf
   ·exact hf
   ·subst hf; exact absurd ((h.ownNew _ _ k2).2 hb') ht
 have hmono : ∀ b o, g.fix b o → g'.fix b o ∧ ∀ u, W.cell? ⟨b, o, none⟩ = some u → W.cell? ⟨b, o, none⟩ = some u := fun b o hf => ⟨.inl hf, fun _ h => h⟩
 have hcell : ∀ (j : Nat) u, vs.toList[j]? = some u → g'.fix (g.bx i).b j ∧ W.cell? ⟨(g.bx i).b, j, none⟩ = some u := fun j u hu => ⟨.inr rfl, by rw [cell_of_heap k1]; simpa using hu⟩
 have h3 := h2.setBox (i := i) (pv := .frz B (cs.map DV.clear) ver) ⟨vs.toList, (Cells.mono hmono k4).clear, hcell⟩ (fun _ => rfl) (by simp [Env.set, PV.isRow]) (.out (fun _ => rfl) rfl)
 have he : (e.set (.box i) (.lent B ver)).set (.box i) (.frz B (cs.map DV.clear) ver) = e.set (.box i) (.frz B (cs.map DV.clear) ver) := by
  funext p; simp only [Env.set]; split <;> rfl
 rw [he] at h3
 exact ⟨g', rfl, fun b o hf => .inl hf, h3, vs.toList, Cells.mono hmono k4, hcell⟩
theorem captOf_rep {fix : Nat → Nat → Prop} {B : TypeId} {cs : List DV} {t : Ty} {y : t.D} {vs : List Value} (h : captOf G B cs = some ⟨t, y⟩) (hc : Cells fix W cs vs) : Rep fix W t y vs := by
 have gen : (match look B G.ty with
  | some T => match T.build cs with
   | some (y, []) => some (⟨T, y⟩ : (t : Ty) × t.D)
   | _ => none
  | none => none) = some ⟨t, y⟩ → Rep fix W t y vs := by
  intro h
  split at h
  ·split at h
   ·rename_i T' _ z hz
    injection h with h
    injection h with h1 h2
    subst h1
    have h2 := eq_of_heq h2
    subst h2
    exact Ty.build_all hz hc
   ·cases h
  ·cases h
 match cs, hc, h with
 | [], hc, h => exact gen h
 | [d], hc, h =>
  simp only [captOf] at h
  cases hd : d.t.isAgg <;> simp only [hd, cond_true, cond_false] at h
  ·injection h with h
   injection h with h1 h2
   subst h1
   have h2 := eq_of_heq h2
   subst h2
   match vs, hc with
   | [v], hc => exact hc.1
  ·cases h
 | d1 :: d2 :: cs, hc, h => exact gen h
theorem captP_sound {e' : Env} : ∀ (xs : List Operand) {e : Env} {g : Gh} {k : (c : Ty) → c.D → Prog}, St w0 T f0 n e a W g → (captP G xs k).run e some = some e' →
  ∃ c cy e1 g1, (k c cy).run e1 some = some e' ∧ St w0 T f0 n e1 a W g1 ∧ (∀ b o, g.fix b o → g1.fix b o) ∧ RepC g1.fix W c cy (xs.map a.eval)
 | [], e, g, k, h, hr => ⟨.unit, (), e, g, hr, h, fun _ _ h => h, rfl⟩
 | x :: xs, e, g, k, h, hr => by
  simp only [captP] at hr
  obtain ⟨pv, hr1, hdat, -⟩ := getV_sound h hr
  split at hr1
  ·rename_i i
   simp only [Prog.run] at hr1
   have hv : a.eval x = .pointer (some ⟨(g.bx i).b, 0, none⟩) := hdat
   have fin : ∀ (t : Ty) (y : t.D) (vs : List Value) {e1 : Env} {g1 : Gh}, St w0 T f0 n e1 a W g1 → (∀ b o, g.fix b o → g1.fix b o) → g1.bx = g.bx → Rep g1.fix W t y vs → (∀ (j : Nat) u, vs[j]? = some u → g1.fix (g.bx i).b j ∧ W.cell? ⟨(g.bx i).b, j, none⟩ = some u) →
     (captP G xs fun c z => k (.pair t c) (y, z)).run e1 some = some e' →
     ∃ c cy e2 g2, (k c cy).run e2 some = some e' ∧ St w0 T f0 n e2 a W g2 ∧ (∀ b o, g.fix b o → g2.fix b o) ∧ RepC g2.fix W c cy ((x :: xs).map a.eval) := by
    intro t y vs e1 g1 h1 hf1 hb1 hrep hcell hr
    obtain ⟨c, cy, e2, g2, q1, q2, q3, q4⟩ := captP_sound xs h1 hr
    have hm : ∀ b o, g1.fix b o → g2.fix b o ∧ ∀ u, W.cell? ⟨b, o, none⟩ = some u → W.cell? ⟨b, o, none⟩ = some u := fun b o hf => ⟨q3 b o hf, fun _ h => h⟩
    refine ⟨.pair t c, (y, cy), e2, g2, q1, q2, fun b o hf => q3 b o (hf1 b o hf), ⟨(g.bx i).b, 0, none⟩, xs.map a.eval, ?_, rfl, q4, vs, Rep.mono hm _ _ _ hrep, fun j u hu => ?_⟩
    ·rw [List.map_cons, hv]
    ·simp only [Nat.zero_add]
     exact ⟨q3 _ _ (hcell j u hu).1, (hcell j u hu).2⟩
   split at hr1
   ·rename_i B cs ver hb
    split at hr1
    ·rename_i t y hcap
     cases hc : G.bxs.contains i <;> simp only [hc, cond_true, cond_false] at hr1
     ·simp [Prog.run] at hr1
     simp only [Prog.run] at hr1
     obtain ⟨g1, q1, q2, q3, vs, q4, q5⟩ := h.freeze hb
     exact fin t y vs q3 q2 q1 (captOf_rep hcap q4) q5 hr1
    ·simp [Prog.run] at hr1
   ·rename_i B cs ver hb
    split at hr1
    ·rename_i t y hcap
     have hbr := h.boxes i
     rw [hb] at hbr
     obtain ⟨vs, q4, q5⟩ := hbr
     exact fin t y vs h (fun _ _ h => h) rfl (captOf_rep hcap q4) q5 hr1
    ·simp [Prog.run] at hr1
   ·simp [Prog.run] at hr1
  ·simp [Prog.run] at hr1
theorem sound_makeFunc {fn : Fn} {first captured : Array Operand} (ho : o.op = .makeFunc fn first captured) : Sound P G w0 T f0 o := by
 intro e e' a W g K Q h hd hr hK
 cases fn with
 | func f =>
  simp only [opV, ho] at hr
  split at hr
  ·rename_i d hfirst hdst
   obtain ⟨c, cy, e1, g1, q1, q2, q3, q4⟩ := captP_sound captured.toList h hr
   have hfa : first = #[] := by apply Array.ext'; rw [hfirst]
   have hmap : captured.map a.eval = (captured.toList.map a.eval).toArray := by apply Array.ext'; simp
   refine value_put q2 hd q1 rfl rfl (v := .func (.func f) #[] (captured.toList.map a.eval).toArray) ⟨rfl, ⟨_, rfl, q4⟩, fun hh => by simp [DV.clear] at hh⟩ ?_ hK
   simp [execOp, ho, Instr.makeFunc, hfa, hmap]
  ·simp [Prog.run] at hr
 | _ => simp [opV, ho, Prog.run] at hr
end
end Go.PM
