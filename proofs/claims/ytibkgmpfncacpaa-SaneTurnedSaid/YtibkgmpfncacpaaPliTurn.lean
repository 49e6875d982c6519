/- Values in memory where the header of one method's code is another one: all else is read as it was. -/
import Derived.Test.YtibkgmpfncacpaaPMSem
namespace Go.Pli
open Go Go.PM
def flatT : Ty → Bool
 | .unit => true
 | .int _ => true
 | .bool => true
 | .str => true
 | .pair a b => flatT a && flatT b
 | _ => false
def NotSl (u : Value) : Prop := ∀ A n c, u ≠ .slice A n c
theorem flat_cells {fix : Nat → Nat → Prop} {W : World} : ∀ (t : Ty) (x : t.D) (cs : List Value), flatT t = true → Rep fix W t x cs → ∀ u ∈ cs, NotSl u
 | .unit, _, _, _, r, u, hu => by cases r; cases hu
 | .int _, _, _, _, r, u, hu => by cases r; rw [List.mem_singleton] at hu; subst hu; exact fun _ _ _ e => by cases e
 | .bool, _, _, _, r, u, hu => by cases r; rw [List.mem_singleton] at hu; subst hu; exact fun _ _ _ e => by cases e
 | .str, _, _, _, r, u, hu => by cases r; rw [List.mem_singleton] at hu; subst hu; exact fun _ _ _ e => by cases e
 | .pair a b, x, _, h, r, u, hu => by
  obtain ⟨c1, c2, h1, h2, h3⟩ := r
  subst h1
  simp only [flatT, Bool.and_eq_true] at h
  rcases List.mem_append.1 hu with hu | hu
  ·exact flat_cells a _ _ h.1 h2 u hu
  ·exact flat_cells b _ _ h.2 h3 u hu
 | .sl _ _, _, _, h, _, _, _ => by cases h
 | .any, _, _, h, _, _, _ => by cases h
 | .clo _ _, _, _, h, _, _, _ => by cases h
 | .osl _ _, _, _, h, _, _, _ => by cases h
theorem flat_same {fix fix' : Nat → Nat → Prop} {W W' : World} : ∀ (t : Ty) (x : t.D) (cs : List Value), flatT t = true → Rep fix W t x cs → Rep fix' W' t x cs
 | .unit, _, _, _, r => r
 | .int _, _, _, _, r => r
 | .bool, _, _, _, r => r
 | .str, _, _, _, r => r
 | .pair a b, x, _, h, r => by
  obtain ⟨c1, c2, h1, h2, h3⟩ := r
  simp only [flatT, Bool.and_eq_true] at h
  exact ⟨c1, c2, h1, flat_same a _ _ h.1 h2, flat_same b _ _ h.2 h3⟩
 | .sl _ _, _, _, h, _ => by cases h
 | .any, _, _, h, _ => by cases h
 | .clo _ _, _, _, h, _ => by cases h
 | .osl _ _, _, _, h, _ => by cases h
structure Turn (fix fix' : Nat → Nat → Prop) (W W' : World) (b0 o0 : Nat) : Prop where
 other : ∀ b o u, fix b o → W.cell? ⟨b, o, none⟩ = some u → ¬ (b = b0 ∧ o = o0) → fix' b o ∧ W'.cell? ⟨b, o, none⟩ = some u
 sl : ∃ A n c, W.cell? ⟨b0, o0, none⟩ = some (.slice A n c)
 lo : ∀ p, p + 1 = o0 → ∃ k v, W.cell? ⟨b0, p, none⟩ = some (.int k v)
 hi : ∃ k v, W.cell? ⟨b0, o0 + 1, none⟩ = some (.int k v)
section
variable {fix fix' : Nat → Nat → Prop} {W W' : World} {b0 o0 : Nat}
theorem Turn.keep (T : Turn fix fix' W W' b0 o0) {b o : Nat} {u : Value} (hf : fix b o) (hc : W.cell? ⟨b, o, none⟩ = some u) (hn : NotSl u) : fix' b o ∧ W'.cell? ⟨b, o, none⟩ = some u := by
 refine T.other b o u hf hc fun he => ?_
 obtain ⟨rfl, rfl⟩ := he
 obtain ⟨A, n, c, h⟩ := T.sl
 rw [hc] at h
 exact hn A n c (Option.some.inj h)
theorem Turn.flat (T : Turn fix fix' W W' b0 o0) {e : TypeId} {r : Ty} (hr : flatT r = true) {xs : List r.D} {cs : List Value} (h : Rep fix W (.sl e r) xs cs) : Rep fix' W' (.sl e r) xs cs := by
 obtain ⟨A, c, h1, h2, h3⟩ := h
 refine ⟨A, c, h1, h2, fun hne => ?_⟩
 obtain ⟨ad, k1, k2, k3⟩ := h3 hne
 refine ⟨ad, k1, k2, fun i x hx => ?_⟩
 obtain ⟨ci, q1, q2⟩ := k3 i x hx
 refine ⟨ci, flat_same r x ci hr q1, fun j u hu => ?_⟩
 obtain ⟨w1, w2⟩ := q2 j u hu
 exact T.keep w1 w2 (flat_cells r x ci hr q1 u (List.mem_of_getElem? hu))
theorem Turn.classes (T : Turn fix fix' W W' b0 o0) {e e1 e2 : TypeId} {k : IntKind} {r1 r2 : Ty} (f1 : flatT r1 = true) (f2 : flatT r2 = true) {xs : List (Ty.pair (.int k) (.pair (.sl e1 r1) (.pair (.sl e2 r2) .unit))).D} {cs : List Value}
  (h : Rep fix W (.sl e (.pair (.int k) (.pair (.sl e1 r1) (.pair (.sl e2 r2) .unit)))) xs cs) : Rep fix' W' (.sl e (.pair (.int k) (.pair (.sl e1 r1) (.pair (.sl e2 r2) .unit)))) xs cs := by
 obtain ⟨A, c, h1, h2, h3⟩ := h
 refine ⟨A, c, h1, h2, fun hne => ?_⟩
 obtain ⟨ad, k1, k2, k3⟩ := h3 hne
 refine ⟨ad, k1, k2, fun i x hx => ?_⟩
 obtain ⟨ci, q1, q2⟩ := k3 i x hx
 obtain ⟨c1, c1', rfl, p1, c2, c2', rfl, p2, c3, c3', rfl, p3, p4⟩ := q1
 have p1 : c1 = [.int k x.1] := p1
 have p4 : c3' = [] := p4
 subst p1; subst p4
 have p2' := T.flat f1 p2
 have p3' := T.flat f2 p3
 obtain ⟨A1, d1, e2', -⟩ := p2
 obtain ⟨A2, d2, e3', -⟩ := p3
 subst e2'; subst e3'
 refine ⟨_, ⟨[_], _, rfl, rfl, [_], _, rfl, p2', [_], [], rfl, p3', rfl⟩, fun j u hu => ?_⟩
 obtain ⟨w1, w2⟩ := q2 j u hu
 have g0 := q2 0 _ rfl
 have g1 := q2 1 _ rfl
 have g2 := q2 2 _ rfl
 match j, hu with
 | 0, hu =>
  refine T.keep w1 w2 ?_
  have : u = .int k x.1 := (Option.some.inj hu).symm
  rw [this]; exact fun _ _ _ h => by cases h
 | 1, hu =>
  refine T.other _ _ u w1 w2 fun he => ?_
  obtain ⟨k', v', hh⟩ := T.hi
  have he1 := he.1
  have he2 := he.2
  subst he1
  rw [show o0 + 1 = ad.off + i * (Ty.pair (.int k) (.pair (.sl e1 r1) (.pair (.sl e2 r2) .unit))).sz + 2 by omega, g2.2] at hh
  cases hh
 | 2, hu =>
  refine T.other _ _ u w1 w2 fun he => ?_
  have he1 := he.1
  have he2 := he.2
  subst he1
  obtain ⟨k', v', hh⟩ := T.lo (ad.off + i * (Ty.pair (.int k) (.pair (.sl e1 r1) (.pair (.sl e2 r2) .unit))).sz + 1) (by omega)
  rw [g1.2] at hh
  cases hh
 | j + 3, hu => simp at hu
abbrev mtT (e1 e2 e3 e4 : TypeId) (k : IntKind) (r1 r2 r3 r4 : Ty) : Ty := .pair (.sl e1 r1) (.pair (.sl e2 r2) (.pair (.pair (.int k) (.pair (.int k) .unit)) (.pair (.sl e3 r3) (.pair (.int k) (.pair (.int k) (.pair (.sl e4 r4) .unit))))))
theorem mt_parts {e1 e2 e3 e4 : TypeId} {k : IntKind} {r1 r2 r3 r4 : Ty} {x : (mtT e1 e2 e3 e4 k r1 r2 r3 r4).D} {ci : List Value} (h : Rep fix W (mtT e1 e2 e3 e4 k r1 r2 r3 r4) x ci) :
  ∃ v1 v2 v3 v4, Rep fix W (.sl e1 r1) x.1 [v1] ∧ Rep fix W (.sl e2 r2) x.2.1 [v2] ∧ Rep fix W (.sl e3 r3) x.2.2.2.1 [v3] ∧ Rep fix W (.sl e4 r4) x.2.2.2.2.2.2.1 [v4] ∧ ci = [v1, v2, .int k x.2.2.1.1, .int k x.2.2.1.2.1, v3, .int k x.2.2.2.2.1, .int k x.2.2.2.2.2.1, v4] := by
 obtain ⟨c1, d1, rfl, p1, c2, d2, rfl, p2, c3, d3, rfl, ⟨y1, y1', rfl, q1, y2, y2', rfl, q2, q3⟩, c4, d4, rfl, p4, c5, d5, rfl, p5, c6, d6, rfl, p6, c7, d7, rfl, p7, p8⟩ := h
 have s1 := p1
 have s2 := p2
 have s4 := p4
 have s7 := p7
 obtain ⟨A1, n1, z1, -⟩ := s1
 obtain ⟨A2, n2, z2, -⟩ := s2
 obtain ⟨A4, n4, z4, -⟩ := s4
 obtain ⟨A7, n7, z7, -⟩ := s7
 have q1 : y1 = [.int k x.2.2.1.1] := q1
 have q2 : y2 = [.int k x.2.2.1.2.1] := q2
 have q3 : y2' = [] := q3
 have p5 : c5 = [.int k x.2.2.2.2.1] := p5
 have p6 : c6 = [.int k x.2.2.2.2.2.1] := p6
 have p8 : d7 = [] := p8
 subst z1; subst z2; subst z4; subst z7; subst q1; subst q2; subst q3; subst p5; subst p6; subst p8
 exact ⟨_, _, _, _, p1, p2, p4, p7, rfl⟩
theorem mt_make {e1 e2 e3 e4 : TypeId} {k : IntKind} {r1 r2 r3 r4 : Ty} {x : (mtT e1 e2 e3 e4 k r1 r2 r3 r4).D} {v1 v2 v3 v4 : Value} (h1 : Rep fix W (.sl e1 r1) x.1 [v1]) (h2 : Rep fix W (.sl e2 r2) x.2.1 [v2]) (h3 : Rep fix W (.sl e3 r3) x.2.2.2.1 [v3]) (h4 : Rep fix W (.sl e4 r4) x.2.2.2.2.2.2.1 [v4]) :
  Rep fix W (mtT e1 e2 e3 e4 k r1 r2 r3 r4) x [v1, v2, .int k x.2.2.1.1, .int k x.2.2.1.2.1, v3, .int k x.2.2.2.2.1, .int k x.2.2.2.2.2.1, v4] :=
 ⟨[_], _, rfl, h1, [_], _, rfl, h2, [_, _], _, rfl, ⟨[_], _, rfl, rfl, [_], [], rfl, rfl, rfl⟩, [_], _, rfl, h3, [_], _, rfl, rfl, [_], _, rfl, rfl, [_], [], rfl, h4, rfl⟩
def setCode {e1 e2 e3 e4 : TypeId} {k : IntKind} {r1 r2 r3 r4 : Ty} (x : (mtT e1 e2 e3 e4 k r1 r2 r3 r4).D) (c : List r3.D) : (mtT e1 e2 e3 e4 k r1 r2 r3 r4).D := (x.1, x.2.1, x.2.2.1, c, x.2.2.2.2)
theorem Turn.methods (T : Turn fix fix' W W' b0 o0) {e e1 e2 e3 e4 : TypeId} {k : IntKind} {r1 r2 r3 r4 : Ty} (f1 : flatT r1 = true) (f2 : flatT r2 = true) (f3 : flatT r3 = true) (f4 : flatT r4 = true) {xs : List (mtT e1 e2 e3 e4 k r1 r2 r3 r4).D} {off n c f : Nat} {x : (mtT e1 e2 e3 e4 k r1 r2 r3 r4).D}
  (h : Rep fix W (.sl e (mtT e1 e2 e3 e4 k r1 r2 r3 r4)) xs [.slice (some ⟨b0, off, none⟩) n c]) (hx : xs[f]? = some x) (ho : o0 = off + f * 8 + 4) {code : List r3.D} {u : Value} (hc : Rep fix' W' (.sl e3 r3) code [u]) (hu : fix' b0 o0 ∧ W'.cell? ⟨b0, o0, none⟩ = some u) :
  Rep fix' W' (.sl e (mtT e1 e2 e3 e4 k r1 r2 r3 r4)) (xs.set f (setCode x code)) [.slice (some ⟨b0, off, none⟩) n c] := by
 obtain ⟨A, c', h1, h2, h3⟩ := h
 injection h1 with h1 _
 injection h1 with h1 h1' h1''
 subst h1; subst h1'; subst h1''
 refine ⟨_, _, by rw [List.length_set], by rw [List.length_set]; exact h2, fun hne => ?_⟩
 have hf := (List.getElem?_eq_some_iff.1 hx).1
 obtain ⟨ad, k1, k2, k3⟩ := h3 (fun hh => by rw [hh] at hf; cases hf)
 injection k1 with k1
 subst k1
 refine ⟨_, rfl, rfl, fun i y hy => ?_⟩
 rw [List.getElem?_set] at hy
 have hsz : (mtT e1 e2 e3 e4 k r1 r2 r3 r4).sz = 8 := rfl
 by_cases hi : f = i
 ·subst hi
  rw [if_pos rfl, if_pos hf] at hy
  have hy := Option.some.inj hy
  subst hy
  obtain ⟨ci, q1, q2⟩ := k3 f x hx
  obtain ⟨v1, v2, v3, v4, p1, p2, p3, p4, rfl⟩ := mt_parts q1
  refine ⟨_, mt_make (x := setCode x code) (T.flat f1 p1) (T.flat f2 p2) hc (T.flat f4 p4), fun j w hw => ?_⟩
  by_cases hj : j = 4
  ·subst hj
   have : w = u := (Option.some.inj hw).symm
   subst this
   rw [hsz, ← ho]
   exact hu
  ·obtain ⟨w1, w2⟩ := q2 j w (by
    match j, hj, hw with
    | 0, _, hw => exact hw
    | 1, _, hw => exact hw
    | 2, _, hw => exact hw
    | 3, _, hw => exact hw
    | 5, _, hw => exact hw
    | 6, _, hw => exact hw
    | 7, _, hw => exact hw
    | j + 8, _, hw => simp at hw)
   exact T.other _ _ w w1 w2 fun he => by
    have he2 : off + f * 8 + j = o0 := he.2
    omega
 ·rw [if_neg hi] at hy
  obtain ⟨ci, q1, q2⟩ := k3 i y hy
  obtain ⟨v1, v2, v3, v4, p1, p2, p3, p4, rfl⟩ := mt_parts q1
  refine ⟨_, mt_make (T.flat f1 p1) (T.flat f2 p2) (T.flat f3 p3) (T.flat f4 p4), fun j w hw => ?_⟩
  obtain ⟨w1, w2⟩ := q2 j w hw
  have hj : j < 8 := (List.getElem?_eq_some_iff.1 hw).1
  exact T.other _ _ w w1 w2 fun he => by
   have he2 : off + i * 8 + j = o0 := he.2
   rcases Nat.lt_or_gt_of_ne hi with h | h
   ·have : f * 8 + 8 ≤ i * 8 := by omega
    omega
   ·have : i * 8 + 8 ≤ f * 8 := by omega
    omega
end
end Go.Pli
