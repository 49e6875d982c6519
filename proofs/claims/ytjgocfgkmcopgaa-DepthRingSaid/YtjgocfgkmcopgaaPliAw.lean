import Derived.Test.YtjgocfgkmcopgaaPliEq17
import Derived.ProofKit
namespace Go.Pli
open Go Go.PM Go.Proofs
def m13 (a : Int) : Im := ([], [], [], [([], [], (5, 0, ()), [(31, a, 0, ()), (33, 0, 0, ())], 0, 0, [0, 0], ()), ([], [(1, 0, ())], (5, 0, ()), [(33, 0, 0, ())], 0, 0, [0], ())], [], 0, 0, ())
def l13 : List (List Sh) := [[(true, [], ()), (true, [], ())], [(true, [], ())]]
theorem all13 : r8all (m13 1) = some (l13, -1, ()) := by kernel_rfl
theorem sane13_1 : saneP (m13 1) = true := by kernel_rfl
theorem sane13_0 : saneP (m13 0) = true := by kernel_rfl
theorem deep13 (f : Int) : 0 ≤ deepB l13 f ∧ deepB l13 f ≤ 8 := by
 have : deepB l13 f = 0 := by
  unfold deepB
  cases hs : sin f (l13.length : Int)
  ·rfl
  ·simp only [sin, Bool.and_eq_true, decide_eq_true_eq] at hs
   have h2 : (l13.length : Int) = 2 := rfl
   rw [h2] at hs
   have : f = 0 ∨ f = 1 := by omega
   rcases this with rfl | rfl <;> rfl
 omega
theorem bound13_1 : dbound (m13 1) l13 = some ([7, 4], 0, ()) := by
 have hb : r8bound (m13 1) l13 = some ([7, 4], true, ()) := by kernel_rfl
 rcases bound_all sane13_1 (l := l13) rfl deep13 with ⟨-, h⟩ | ⟨V, -, h1, h2⟩
 ·rw [hb] at h; cases h
 ·rw [hb] at h2
  have := congrArg (fun z => z.1) (Option.some.inj h2)
  simp only at this
  rw [h1, ← this]
theorem bound13_0 : dbound (m13 0) l13 = some ([], 5, ()) := by
 have hb : r8bound (m13 0) l13 = some ([], false, ()) := by kernel_rfl
 rcases bound_all sane13_0 (l := l13) rfl deep13 with ⟨h, -⟩ | ⟨V, -, h1, h2⟩
 ·exact h
 ·rw [hb] at h2; cases h2
def hd1 : Code → Code
 | .seq a _ => a
 | c => c
def tl1 : Code → Code
 | .seq _ b => b
 | c => c
noncomputable section
noncomputable def c18 : Code := (Try.f18.body).getD .skip
noncomputable def d2 : Code := tl1 (tl1 c18)
noncomputable def d4 : Code := tl1 (tl1 d2)
noncomputable def d5 : Code := tl1 d4
noncomputable def G13 : Ctx := cx [(12, rintsS), (19, r8allS), (20, dboundS), (22, dframeS), (25, r5saneS)] [] 73 []
theorem G13ok : CtxOk Try.prog G13 := ctxOk TYok (by kernel_rfl) ⟨rintsO, r8allO, dboundO, dframeO, r5saneO, trivial⟩ (by rfl)
def e13 (m : Im) : Env := Env.set (Env.set (fun _ => PV.unk) (.slot 1) (.bptr 1000001 0)) (.box 1000001) (.frz 28 (tyTIm.split m) 0)
def tSS : Ty := tyStyStyTSh
def asV (t : Ty) : PV → Option t.D
 | .val d => d.as t
 | _ => none
def get13 (e : Env) : Option (List (List Sh) × Int × List Int × Int × Unit) :=
 bif (match e (.slot 1) with | .bptr i o => Nat.beq i 1000001 && Nat.beq o 0 | _ => false) then
  (asV tSS (e (.slot 2))).bind fun l => (asV (.int .i64) (e (.slot 3))).bind fun b => (asV tySi64 (e (.slot 4))).bind fun v => (asV (.int .i64) (e (.slot 5))).bind fun r => some (l, b, v, r, ())
 else none
noncomputable def k3 : Ex → Env → Option (List (List Sh) × Int × List Int × Int × Unit)
 | .normal, e => get13 e
 | _, _ => none
noncomputable def k2 : Ex → Env → Option (List (List Sh) × Int × List Int × Int × Unit)
 | .normal, e => exec G13 A0 1 (hd1 (tl1 d2)) e k3
 | _, _ => none
theorem exec23 : exec G13 A0 1 (hd1 d2) (e13 (m13 1)) k2 = (r8all (m13 1)).bind fun r => (dbound (m13 1) r.1).bind fun q => some (r.1, r.2.1, q.1, q.2.1, ()) := by kernel_rfl
def e13b (m : Im) (l : List (List Sh)) (b : Int) (v : List Int) (r : Int) : Env :=
 Env.set (Env.set (Env.set (Env.set (e13 m) (.slot 2) (.val ⟨tSS, l, false⟩)) (.slot 3) (.val ⟨.int .i64, b, false⟩)) (.slot 4) (.val ⟨tySi64, v, false⟩)) (.slot 5) (.val ⟨.int .i64, r, false⟩)
noncomputable def kf : Ex → Env → Option (Bool × Unit)
 | .ret, e => endAll G13 [.val .bool] [] Try.f18.results.toList e
 | _, _ => none
theorem exec56 : exec G13 A0 1 d5 (e13b (m13 0) l13 (-1) [7, 4] 0) kf = some (true, ()) := by
 have : exec G13 A0 1 d5 (e13b (m13 0) l13 (-1) [7, 4] 0) kf = (dbound (m13 0) l13).bind fun q => bif q.2.1 == 5 then some (true, ()) else some (false, ()) := by kernel_rfl
 rw [this, bound13_0]
 rfl
end
section
variable {fix : Nat → Nat → Prop} {W : World}
theorem rIns (a b c : Int) : Rep fix W tyTIns (a, b, c, ()) [.int .i64 a, .int .i64 b, .int .i64 c] := ⟨[_], _, rfl, rfl, [_], _, rfl, rfl, [_], [], rfl, rfl, rfl⟩
theorem rTp (a b : Int) : Rep fix W tyTTp (a, b, ()) [.int .i64 a, .int .i64 b] := ⟨[_], _, rfl, rfl, [_], [], rfl, rfl, rfl⟩
theorem rNil {e : TypeId} {r : Ty} : Rep fix W (.sl e r) [] [.slice none 0 0] := ⟨none, 0, rfl, ⟨Nat.le_refl _, Nat.zero_le _⟩, fun h => absurd rfl h⟩
theorem rSl {e e' : TypeId} {r : Ty} {xs : List r.D} {cs : List Value} {b : Nat} {fr : Nat × Nat} (h : PM.Rows fix W r xs cs) (hl : Nat.ble xs.length lenMax = true) (hb : W.heap[b]? = some (.cells cs.toArray e' fr)) (hf : ∀ o, fix b o) : Rep fix W (.sl e r) xs [.slice (some ⟨b, 0, none⟩) xs.length xs.length] :=
 Rep.of_rows h ⟨Nat.le_refl _, Nat.le_of_ble_eq_true hl⟩ fun j u hu => ⟨hf _, by
  simp only [World.cell?, hb]
  simpa using hu⟩
theorem rMt {args locals : List Tp} {code : List Ins} {phi : List Int} {k n d p : Int} {vA vL vC vF : Value} (hA : Rep fix W tyStyTTp args [vA]) (hL : Rep fix W tyStyTTp locals [vL]) (hC : Rep fix W tyStyTIns code [vC]) (hF : Rep fix W tySi64 phi [vF]) :
  Rep fix W tyTMt (args, locals, (k, n, ()), code, d, p, phi, ()) [vA, vL, .int .i64 k, .int .i64 n, vC, .int .i64 d, .int .i64 p, vF] :=
 ⟨[_], _, rfl, hA, [_], _, rfl, hL, [_, _], _, rfl, rTp k n, [_], _, rfl, hC, [_], _, rfl, rfl, [_], _, rfl, rfl, [_], [], rfl, hF, rfl⟩
end
def p13 (b n : Nat) : Value := .slice (some ⟨b, 0, none⟩) n n
def z13 : Value := .slice none 0 0
structure Mem13 (n : Nat) (x : Int) (W : World) : Prop where
 c0 : W.heap[n]? = some (.cells #[.int .i64 31, .int .i64 x, .int .i64 0, .int .i64 33, .int .i64 0, .int .i64 0] 54 (0, 0))
 c1 : W.heap[n + 1]? = some (.cells #[.int .i64 0, .int .i64 0] 3 (0, 0))
 c2 : W.heap[n + 2]? = some (.cells #[.int .i64 1, .int .i64 0] 52 (0, 0))
 c3 : W.heap[n + 3]? = some (.cells #[.int .i64 33, .int .i64 0, .int .i64 0] 54 (0, 0))
 c4 : W.heap[n + 4]? = some (.cells #[.int .i64 0] 3 (0, 0))
 c5 : W.heap[n + 5]? = some (.cells #[z13, z13, .int .i64 5, .int .i64 0, p13 n 2, .int .i64 0, .int .i64 0, p13 (n + 1) 2, z13, p13 (n + 2) 1, .int .i64 5, .int .i64 0, p13 (n + 3) 1, .int .i64 0, .int .i64 0, p13 (n + 4) 1] 57 (0, 0))
 c6 : W.heap[n + 6]? = some (.cells #[z13, z13, z13, p13 (n + 5) 2, z13, .int .i64 0, .int .i64 0] 28 (0, 0))
def v13 (n : Nat) : List Value := [z13, z13, z13, p13 (n + 5) 2, z13, .int .i64 0, .int .i64 0]
theorem rep13 {fix : Nat → Nat → Prop} {W : World} {n : Nat} {x : Int} (h : Mem13 n x W) (hf : ∀ b o, n ≤ b → b < n + 7 → fix b o) : Rep fix W tyTIm (m13 x) (v13 n) := by
 have f := fun (k : Nat) (hk : k < 7) (o : Nat) => hf (n + k) o (by omega) (by omega)
 have r0 : Rep fix W tyStyTIns [(31, x, 0, ()), (33, 0, 0, ())] [p13 n 2] := rSl (cs := [.int .i64 31, .int .i64 x, .int .i64 0] ++ [.int .i64 33, .int .i64 0, .int .i64 0]) ((PM.Rows.one (rIns 31 x 0)).append (PM.Rows.one (rIns 33 0 0))) rfl h.c0 (f 0 (by decide))
 have r1 : Rep fix W tySi64 [0, 0] [p13 (n + 1) 2] := rSl (cs := [.int .i64 0] ++ [.int .i64 0]) ((PM.Rows.one (r := .int .i64) (x := (0 : Int)) rfl).append (PM.Rows.one (r := .int .i64) (x := (0 : Int)) rfl)) rfl h.c1 (f 1 (by decide))
 have r2 : Rep fix W tyStyTTp [(1, 0, ())] [p13 (n + 2) 1] := rSl (PM.Rows.one (rTp 1 0)) rfl h.c2 (f 2 (by decide))
 have r3 : Rep fix W tyStyTIns [(33, 0, 0, ())] [p13 (n + 3) 1] := rSl (PM.Rows.one (rIns 33 0 0)) rfl h.c3 (f 3 (by decide))
 have r4 : Rep fix W tySi64 [0] [p13 (n + 4) 1] := rSl (PM.Rows.one (r := .int .i64) (x := (0 : Int)) (cs := [.int .i64 0]) rfl) rfl h.c4 (f 4 (by decide))
 have r5 : Rep fix W tyStyTMt (m13 x).2.2.2.1 [p13 (n + 5) 2] := rSl (cs := [z13, z13, .int .i64 5, .int .i64 0, p13 n 2, .int .i64 0, .int .i64 0, p13 (n + 1) 2] ++ [z13, p13 (n + 2) 1, .int .i64 5, .int .i64 0, p13 (n + 3) 1, .int .i64 0, .int .i64 0, p13 (n + 4) 1])
  ((PM.Rows.one (rMt rNil rNil r0 r1)).append (PM.Rows.one (rMt rNil r2 r3 r4))) rfl h.c5 (f 5 (by decide))
 exact ⟨[_], _, rfl, rNil, [_], _, rfl, rNil, [_], _, rfl, rNil, [_], _, rfl, r5, [_], _, rfl, rNil, [_], _, rfl, rfl, [_], [], rfl, rfl, rfl⟩
theorem cells13 {fix : Nat → Nat → Prop} {W : World} {n : Nat} {x : Int} (h : Mem13 n x W) (hf : ∀ b o, n ≤ b → b < n + 7 → fix b o) : Cells fix W (tyTIm.split (m13 x)) (v13 n) := Cells.split _ _ _ (rep13 h hf)
def CN (k : Int) : (t : Ty) → t.D → Prop
 | .unit, _ => True
 | .int _, x => x ≠ k
 | .bool, _ => True
 | .str, _ => True
 | .sl _ _, _ => True
 | .pair a b, x => CN k a x.1 ∧ CN k b x.2
 | _, _ => False
def HN (k : Int) : (t : Ty) → t.D → Prop
 | .unit, _ => True
 | .int _, _ => True
 | .bool, _ => True
 | .str, _ => True
 | .sl _ r, xs => ∀ x ∈ xs, CN k r x ∧ HN k r x
 | .pair a b, x => HN k a x.1 ∧ HN k b x.2
 | _, _ => False
theorem CN.cells {fix : Nat → Nat → Prop} {W : World} {k : Int} : ∀ (t : Ty) (x : t.D) (cs : List Value), CN k t x → Rep fix W t x cs → ∀ u ∈ cs, ∀ K, u ≠ .int K k
 | .unit, _, _, _, r, u, hu, K => by cases r; cases hu
 | .int _, x, _, h, r, u, hu, K => by
  cases r
  rw [List.mem_singleton] at hu
  subst hu
  intro e
  injection e with _ e
  exact h e
 | .bool, _, _, _, r, u, hu, K => by cases r; rw [List.mem_singleton] at hu; subst hu; exact fun e => by cases e
 | .str, _, _, _, r, u, hu, K => by cases r; rw [List.mem_singleton] at hu; subst hu; exact fun e => by cases e
 | .sl _ _, _, _, _, r, u, hu, K => by
  obtain ⟨A, c, h1, -⟩ := r
  subst h1
  rw [List.mem_singleton] at hu; subst hu; exact fun e => by cases e
 | .pair a b, x, _, h, r, u, hu, K => by
  obtain ⟨c1, c2, h1, h2, h3⟩ := r
  subst h1
  rcases List.mem_append.1 hu with hu | hu
  ·exact CN.cells a _ _ h.1 h2 u hu K
  ·exact CN.cells b _ _ h.2 h3 u hu K
 | .any, _, _, h, _, _, _, _ => h.elim
 | .clo _ _, _, _, h, _, _, _, _ => h.elim
 | .osl _ _, _, _, h, _, _, _, _ => h.elim
theorem HN.turn {fix fix' : Nat → Nat → Prop} {W W' : World} {k : Int} (hW : ∀ b o u, fix b o → W.cell? ⟨b, o, none⟩ = some u → (∀ K, u ≠ .int K k) → fix' b o ∧ W'.cell? ⟨b, o, none⟩ = some u) :
  ∀ (t : Ty) (x : t.D) (cs : List Value), HN k t x → Rep fix W t x cs → Rep fix' W' t x cs
 | .unit, _, _, _, r => r
 | .int _, _, _, _, r => r
 | .bool, _, _, _, r => r
 | .str, _, _, _, r => r
 | .sl _ r, xs, cs, h, hr => by
  obtain ⟨A, c, h1, h2, h3⟩ := hr
  refine ⟨A, c, h1, h2, fun hne => ?_⟩
  obtain ⟨ad, k1, k2, k3⟩ := h3 hne
  refine ⟨ad, k1, k2, fun i x hx => ?_⟩
  obtain ⟨ci, q1, q2⟩ := k3 i x hx
  obtain ⟨g1, g2⟩ := h x (List.mem_of_getElem? hx)
  refine ⟨ci, HN.turn hW r x ci g2 q1, fun j u hu => ?_⟩
  obtain ⟨w1, w2⟩ := q2 j u hu
  exact hW _ _ u w1 w2 fun K => CN.cells r x ci g1 q1 u (List.mem_of_getElem? hu) K
 | .pair a b, x, _, h, r => by
  obtain ⟨c1, c2, h1, h2, h3⟩ := r
  exact ⟨c1, c2, h1, HN.turn hW a _ _ h.1 h2, HN.turn hW b _ _ h.2 h3⟩
 | .any, _, _, h, _ => h.elim
 | .clo _ _, _, _, h, _ => h.elim
 | .osl _ _, _, _, h, _ => h.elim
end Go.Pli

namespace Go.Pli
open Go Go.PM Go.Proofs
theorem putF {a : Act} {d : Nat} {v : Value} (hs : a.tmps.size = 73) (hd : d < 73) : (a.put (some d) v).tmps.size = 73 ∧ (a.put (some d) v).defers = a.defers ∧ (a.put (some d) v).tmps.getD d undef = v ∧ ∀ t, t ≠ d → (a.put (some d) v).tmps.getD t undef = a.tmps.getD t undef := by
 refine ⟨by simp [Act.put, hs], rfl, ?_, fun t ht => ?_⟩
 ·simp [Act.put, Array.getD_eq_getD_getElem?, hs, hd]
 ·simp only [Act.put, Array.getD_eq_getD_getElem?, Array.getElem?_setIfInBounds]
  rw [if_neg fun h => ht h.symm]
set_option maxRecDepth 100000 in
theorem step4 {n : Nat} {W : World} {a : Act} {Q} (hM : Mem13 n 1 W) (hs : a.tmps.size = 73) (hdf : a.defers = []) (h1 : a.tmps.getD 1 undef = .pointer (some ⟨n + 6, 0, none⟩))
  (h : ∀ a' : Act, a'.tmps.size = 73 → a'.defers = [] → (∀ t, t < 34 → a'.tmps.getD t undef = a.tmps.getD t undef) → d5.wp Try.prog Q a' (W.setCell ⟨n, 1, none⟩ (.int .i64 0))) : d4.wp Try.prog Q a W := by
 have e : d4 = .seq (hd1 d4) d5 := by kernel_rfl
 rw [e]
 apply wp_seq
 simp only [d4, d2, c18, Try.f18, Option.getD_some, tl1, hd1]
 apply wp_region_list
 have k6 : W.cell? ⟨n + 6, 3, none⟩ = some (p13 (n + 5) 2) := by rw [cell_of_heap hM.c6]; rfl
 have k5 : W.cell? ⟨n + 5, 4, none⟩ = some (p13 n 2) := by rw [cell_of_heap hM.c5]; rfl
 have k0 : W.cell? ⟨n, 1, none⟩ = some (.int .i64 1) := by rw [cell_of_heap hM.c0]; rfl
 have kf : W.frozen? ⟨n, 1, none⟩ = false := by simp [World.frozen?, hM.c0]
 refine wpList_plain rfl fun K hK => wp_value (v := .pointer (some ⟨n + 6, 3, none⟩)) (W' := W) (by simp [go_sem, Act.eval, h1]) (hK _ _ ?_)
 clear K hK
 obtain ⟨s1, f1, q1, o1⟩ := putF (v := .pointer (some ⟨n + 6, 3, none⟩)) hs (show 34 < 73 by decide)
 generalize a.put (some 34) (.pointer (some ⟨n + 6, 3, none⟩)) = a1 at s1 f1 q1 o1 ⊢
 refine wpList_plain rfl fun K hK => wp_value (v := p13 (n + 5) 2) (W' := W) (by simp [go_sem, Act.eval, q1, k6, p13]) (hK _ _ ?_)
 clear K hK
 obtain ⟨s2, f2, q2, o2⟩ := putF (v := p13 (n + 5) 2) s1 (show 35 < 73 by decide)
 generalize a1.put (some 35) (p13 (n + 5) 2) = a2 at s2 f2 q2 o2 ⊢
 refine wpList_plain rfl fun K hK => wp_value (v := .pointer (some ⟨n + 5, 0, none⟩)) (W' := W) (by simp [go_sem, Act.eval, q2, p13]) (hK _ _ ?_)
 clear K hK
 obtain ⟨s3, f3, q3, o3⟩ := putF (v := .pointer (some ⟨n + 5, 0, none⟩)) s2 (show 36 < 73 by decide)
 generalize a2.put (some 36) (.pointer (some ⟨n + 5, 0, none⟩)) = a3 at s3 f3 q3 o3 ⊢
 refine wpList_plain rfl fun K hK => wp_value (v := .pointer (some ⟨n + 5, 4, none⟩)) (W' := W) (by simp [go_sem, Act.eval, q3]) (hK _ _ ?_)
 clear K hK
 obtain ⟨s4, f4, q4, o4⟩ := putF (v := .pointer (some ⟨n + 5, 4, none⟩)) s3 (show 37 < 73 by decide)
 generalize a3.put (some 37) (.pointer (some ⟨n + 5, 4, none⟩)) = a4 at s4 f4 q4 o4 ⊢
 refine wpList_plain rfl fun K hK => wp_value (v := p13 n 2) (W' := W) (by simp [go_sem, Act.eval, q4, k5, p13]) (hK _ _ ?_)
 clear K hK
 obtain ⟨s5, f5, q5, o5⟩ := putF (v := p13 n 2) s4 (show 38 < 73 by decide)
 generalize a4.put (some 38) (p13 n 2) = a5 at s5 f5 q5 o5 ⊢
 refine wpList_plain rfl fun K hK => wp_value (v := .pointer (some ⟨n, 0, none⟩)) (W' := W) (by simp [go_sem, Act.eval, q5, p13]) (hK _ _ ?_)
 clear K hK
 obtain ⟨s6, f6, q6, o6⟩ := putF (v := .pointer (some ⟨n, 0, none⟩)) s5 (show 39 < 73 by decide)
 generalize a5.put (some 39) (.pointer (some ⟨n, 0, none⟩)) = a6 at s6 f6 q6 o6 ⊢
 refine wpList_plain rfl fun K hK => wp_value (v := .pointer (some ⟨n, 1, none⟩)) (W' := W) (by simp [go_sem, Act.eval, q6]) (hK _ _ ?_)
 clear K hK
 obtain ⟨s7, f7, q7, o7⟩ := putF (v := .pointer (some ⟨n, 1, none⟩)) s6 (show 40 < 73 by decide)
 generalize a6.put (some 40) (.pointer (some ⟨n, 1, none⟩)) = a7 at s7 f7 q7 o7 ⊢
 refine wpList_plain rfl fun K hK => wp_skip' (W' := W.setCell ⟨n, 1, none⟩ (.int .i64 0)) (by simp [go_sem, Act.eval, q7, k0, kf]) (hK _ _ ?_)
 clear K hK
 show d5.wp Try.prog Q (a7.put none undef) _
 refine h _ s7 (by rw [show (a7.put none undef).defers = a7.defers from rfl, f7, f6, f5, f4, f3, f2, f1, hdf]) fun t ht => ?_
 show a7.tmps.getD t undef = _
 rw [o7 t (by omega), o6 t (by omega), o5 t (by omega), o4 t (by omega), o3 t (by omega), o2 t (by omega), o1 t (by omega)]
theorem al7 (W : World) (o0 o1 o2 o3 o4 o5 o6 : Obj) : ∃ W' : World, W' = ((((((W.alloc o0).alloc o1).alloc o2).alloc o3).alloc o4).alloc o5).alloc o6 ∧ W'.heap.size = W.heap.size + 7 ∧ (∀ b, b < W.heap.size → W'.heap[b]? = W.heap[b]?) ∧ W'.os = W.os ∧ W'.tape = W.tape ∧ W'.output = W.output ∧
  W'.heap[W.heap.size]? = some o0 ∧ W'.heap[W.heap.size + 1]? = some o1 ∧ W'.heap[W.heap.size + 2]? = some o2 ∧ W'.heap[W.heap.size + 3]? = some o3 ∧ W'.heap[W.heap.size + 4]? = some o4 ∧ W'.heap[W.heap.size + 5]? = some o5 ∧ W'.heap[W.heap.size + 6]? = some o6 := by
 have st : ∀ (V : World) (o : Obj), (V.alloc o).heap.size = V.heap.size + 1 ∧ (∀ b, b < V.heap.size → (V.alloc o).heap[b]? = V.heap[b]?) ∧ (V.alloc o).heap[V.heap.size]? = some o := fun V o =>
  ⟨Array.size_push _, fun b hb => by
   show (V.heap.push o)[b]? = _
   rw [Array.getElem?_push, if_neg (by omega)], by
   show (V.heap.push o)[V.heap.size]? = _
   rw [Array.getElem?_push, if_pos rfl]⟩
 obtain ⟨s0, f0, g0⟩ := st W o0
 obtain ⟨s1, f1, g1⟩ := st (W.alloc o0) o1
 obtain ⟨s2, f2, g2⟩ := st ((W.alloc o0).alloc o1) o2
 obtain ⟨s3, f3, g3⟩ := st (((W.alloc o0).alloc o1).alloc o2) o3
 obtain ⟨s4, f4, g4⟩ := st ((((W.alloc o0).alloc o1).alloc o2).alloc o3) o4
 obtain ⟨s5, f5, g5⟩ := st (((((W.alloc o0).alloc o1).alloc o2).alloc o3).alloc o4) o5
 obtain ⟨s6, f6, g6⟩ := st ((((((W.alloc o0).alloc o1).alloc o2).alloc o3).alloc o4).alloc o5) o6
 rw [s0] at s1 g1 f1
 rw [s1] at s2 g2 f2
 rw [s2] at s3 g3 f3
 rw [s3] at s4 g4 f4
 rw [s4] at s5 g5 f5
 rw [s5] at s6 g6 f6
 refine ⟨_, rfl, s6, fun b hb => ?_, rfl, rfl, rfl, ?_, ?_, ?_, ?_, ?_, ?_, g6⟩
 ·rw [f6 b (by omega), f5 b (by omega), f4 b (by omega), f3 b (by omega), f2 b (by omega), f1 b (by omega), f0 b hb]
 ·rw [f6 _ (by omega), f5 _ (by omega), f4 _ (by omega), f3 _ (by omega), f2 _ (by omega), f1 _ (by omega), g0]
 ·rw [f6 _ (by omega), f5 _ (by omega), f4 _ (by omega), f3 _ (by omega), f2 _ (by omega), g1]
 ·rw [f6 _ (by omega), f5 _ (by omega), f4 _ (by omega), f3 _ (by omega), g2]
 ·rw [f6 _ (by omega), f5 _ (by omega), f4 _ (by omega), g3]
 ·rw [f6 _ (by omega), f5 _ (by omega), g4]
 ·rw [f6 _ (by omega), g5]
set_option maxRecDepth 100000 in
theorem step01 {W : World} {Q} (h : ∀ (a' : Act) (W' : World), a'.tmps.size = 73 → a'.defers = [] → a'.tmps.getD 1 undef = .pointer (some ⟨W.heap.size + 6, 0, none⟩) → Mem13 W.heap.size 1 W' → W'.heap.size = W.heap.size + 7 → (∀ b, b < W.heap.size → W'.heap[b]? = W.heap[b]?) → W'.os = W.os → W'.tape = W.tape → W'.output = W.output → d2.wp Try.prog Q a' W') :
  c18.wp Try.prog Q { tmps := Array.replicate 73 undef, defers := [] } W := by
 have e : c18 = .seq (hd1 c18) (.seq (hd1 (tl1 c18)) d2) := by kernel_rfl
 rw [e]
 generalize d2 = dd at h
 simp only [c18, Try.f18, Option.getD_some, tl1, hd1]
 apply wp_seq
 apply wp_region_list
 simp only [Array.replicate_succ, Array.replicate_zero, Array.push, List.concat_eq_append, List.nil_append, List.cons_append]
 go_wp
 obtain ⟨W', hW, m2, m3, m4, m5, m6, c0, c1, c2, c3, c4, c5, c6⟩ := al7 W (.cells #[.int .i64 31, .int .i64 1, .int .i64 0, .int .i64 33, .int .i64 0, .int .i64 0] 54 (0, 0)) (.cells #[.int .i64 0, .int .i64 0] 3 (0, 0)) (.cells #[.int .i64 1, .int .i64 0] 52 (0, 0)) (.cells #[.int .i64 33, .int .i64 0, .int .i64 0] 54 (0, 0)) (.cells #[.int .i64 0] 3 (0, 0))
  (.cells #[z13, z13, .int .i64 5, .int .i64 0, p13 W.heap.size 2, .int .i64 0, .int .i64 0, p13 (W.heap.size + 1) 2, z13, p13 (W.heap.size + 2) 1, .int .i64 5, .int .i64 0, p13 (W.heap.size + 3) 1, .int .i64 0, .int .i64 0, p13 (W.heap.size + 4) 1] 57 (0, 0)) (.cells #[z13, z13, z13, p13 (W.heap.size + 5) 2, z13, .int .i64 0, .int .i64 0] 28 (0, 0))
 have h' : ∀ a' : Act, a'.tmps.size = 73 → a'.defers = [] → a'.tmps.getD 1 undef = .pointer (some ⟨W.heap.size + 6, 0, none⟩) → _ := fun a' q1 q2 q3 => hW ▸ h a' W' q1 q2 q3 ⟨c0, c1, c2, c3, c4, c5, c6⟩ m2 m3 m4 m5 m6
 exact h' _ rfl rfl rfl
end Go.Pli

namespace Go.Pli
open Go Go.PM Go.Proofs
def B13 (n : Nat) : Nat → Bx := fun _ => ⟨n + 6, undef, fun _ => undef⟩
theorem st13 {fix : Nat → Nat → Prop} {W : World} {n : Nat} {x : Int} {a : Act} (h : Mem13 n x W) (hf : ∀ b o, n ≤ b → b < n + 7 → fix b o) (hl : ∀ b o, fix b o → b < W.heap.size) (hs : a.tmps.size = 73) (hd : a.defers = []) (h1 : a.tmps.getD 1 undef = .pointer (some ⟨n + 6, 0, none⟩)) :
  St W (fun _ => False) ⟨fix, B13 n⟩ 73 (e13 (m13 x)) a W ⟨fix, fun _ => none, B13 n⟩ := by
 refine ⟨hd, hs, rfl, rfl, rfl, Nat.le_refl _, fun _ _ _ => rfl, fun b q hq => (by cases hq), hl, fun b o h => ⟨h, fun _ h => h⟩, fun b o _ _ h => h, by omega, fun _ _ _ => rfl, fun t => ?_, fun t => ?_, fun i => ?_, fun i k h1 h2 => ?_⟩
 ·by_cases ht : t = 1
  ·subst ht; rfl
  ·have : e13 (m13 x) (.slot t) = .unk := by simp [e13, Env.set, ht]
   rw [this]; trivial
 ·by_cases ht : t = 1
  ·subst ht; exact h1
  ·have : e13 (m13 x) (.slot t) = .unk := by simp [e13, Env.set, ht]
   rw [this]; trivial
 ·by_cases ht : i = 1000001
  ·subst ht
   refine ⟨v13 n, cells13 h hf, fun j u hu => ⟨hf _ _ (Nat.le_add_right _ _) (by show n + 6 < n + 7; omega), ?_⟩⟩
   show W.cell? ⟨n + 6, j, none⟩ = some u
   rw [cell_of_heap h.c6]
   simpa [v13] using hu
  ·have : e13 (m13 x) (.box i) = .unk := by simp [e13, Env.set, ht]
   rw [this]; trivial
 ·by_cases ht : i = 1000001
  ·subst ht; cases h1
  ·have : e13 (m13 x) (.box i) = .unk := by simp [e13, Env.set, ht]
   rw [this] at h1; cases h1
theorem get13_some {e : Env} {l : List (List Sh)} {b : Int} {v : List Int} {r : Int} (h : get13 e = some (l, b, v, r, ())) : e (.slot 1) = .bptr 1000001 0 ∧ (∃ p, e (.slot 2) = .val ⟨tSS, l, p⟩) ∧ (∃ p, e (.slot 3) = .val ⟨.int .i64, b, p⟩) ∧ (∃ p, e (.slot 4) = .val ⟨tySi64, v, p⟩) ∧ ∃ p, e (.slot 5) = .val ⟨.int .i64, r, p⟩ := by
 have asv : ∀ {t : Ty} {p : PV} {x : t.D}, asV t p = some x → ∃ tp, p = .val ⟨t, x, tp⟩ := fun {t p x} hx => by
  cases p <;> try cases hx
  obtain ⟨tp, rfl⟩ := DV.as_eq (by assumption)
  exact ⟨tp, rfl⟩
 unfold get13 at h
 generalize he : e (.slot 1) = s1 at h ⊢
 cases s1 <;> try cases h
 rename_i i o
 cases hc : Nat.beq i 1000001 && Nat.beq o 0 <;> simp only [hc, cond_true, cond_false] at h
 ·cases h
 rw [Bool.and_eq_true] at hc
 obtain rfl := Nat.eq_of_beq_eq_true hc.1
 obtain rfl := Nat.eq_of_beq_eq_true hc.2
 cases h2 : asV tSS (e (.slot 2)) with
 | none => rw [h2] at h; cases h
 | some l' =>
 cases h3 : asV (.int .i64) (e (.slot 3)) with
 | none => rw [h2, h3] at h; cases h
 | some b' =>
 cases h4 : asV tySi64 (e (.slot 4)) with
 | none => rw [h2, h3, h4] at h; cases h
 | some v' =>
 cases h5 : asV (.int .i64) (e (.slot 5)) with
 | none => rw [h2, h3, h4, h5] at h; cases h
 | some r' =>
 rw [h2, h3, h4, h5] at h
 have h := Option.some.inj h
 have e1 : l' = l := congrArg (·.1) h
 have e2 : b' = b := congrArg (·.2.1) h
 have e3 : v' = v := congrArg (·.2.2.1) h
 have e4 : r' = r := congrArg (·.2.2.2.1) h
 subst e1; subst e2; subst e3; subst e4
 exact ⟨rfl, asv h2, asv h3, asv h4, asv h5⟩
def SV (fx : Nat → Nat → Prop) (W : World) (t : Ty) (x : t.D) (v : Value) : Prop := Value.isAgg v = false ∧ Rep fx W t x [v]
theorem step23 {n : Nat} {W : World} {a : Act} {Q} (hM : Mem13 n 1 W) (hn : W.heap.size = n + 7) (hs : a.tmps.size = 73) (hd : a.defers = []) (h1 : a.tmps.getD 1 undef = .pointer (some ⟨n + 6, 0, none⟩))
  (h : ∀ (a' : Act) (W' : World) (fx : Nat → Nat → Prop), a'.tmps.size = 73 → a'.defers = [] → a'.tmps.getD 1 undef = .pointer (some ⟨n + 6, 0, none⟩) → W'.os = W.os → W'.tape = W.tape → W'.output = W.output → W.heap.size ≤ W'.heap.size → (∀ b, b < W.heap.size → W'.heap[b]? = W.heap[b]?) →
   (∀ b o, fx b o → b < W'.heap.size) → (∀ b o, fx b o → n ≤ b) → SV fx W' tSS l13 (a'.tmps.getD 2 undef) → SV fx W' (.int .i64) (-1 : Int) (a'.tmps.getD 3 undef) → SV fx W' tySi64 [7, 4] (a'.tmps.getD 4 undef) → SV fx W' (.int .i64) (0 : Int) (a'.tmps.getD 5 undef) → d4.wp Try.prog Q a' W') : d2.wp Try.prog Q a W := by
 have e : d2 = .seq (hd1 d2) (tl1 d2) := by kernel_rfl
 have e' : tl1 d2 = .seq (hd1 (tl1 d2)) d4 := by kernel_rfl
 rw [e]
 apply wp_seq
 have hst := st13 (fix := fun b _ => n ≤ b ∧ b < n + 7) hM (fun b o h1 h2 => ⟨h1, h2⟩) (fun b o hb => by rw [hn]; exact hb.2) hs hd h1
 have hex : exec G13 A0 1 (hd1 d2) (e13 (m13 1)) k2 = some (l13, -1, [7, 4], 0, ()) := by
  rw [exec23, all13, Option.bind_some, bound13_1]
  rfl
 refine exec_sound (A := A0) (fuel := 1) G13ok (hd1 d2) hst hex fun x e1 a1 W1 g1 hk1 _ s1 => ?_
 cases x with
 | ret => cases hk1
 | exit _ => cases hk1
 | normal =>
 show Code.wp Try.prog (tl1 d2) Q a1 W1
 rw [e']
 apply wp_seq
 refine exec_sound (A := A0) (fuel := 1) G13ok (hd1 (tl1 d2)) s1 hk1 fun x e2 a2 W2 g2 hk2 _ s2 => ?_
 cases x with
 | ret => cases hk2
 | exit _ => cases hk2
 | normal =>
 show Code.wp Try.prog d4 Q a2 W2
 obtain ⟨q1, ⟨p2, q2⟩, ⟨p3, q3⟩, ⟨p4, q4⟩, p5, q5⟩ := get13_some hk2
 have t1 := s2.slots 1
 have t2 := s2.slots 2
 have t3 := s2.slots 3
 have t4 := s2.slots 4
 have t5 := s2.slots 5
 rw [q1] at t1
 rw [q2] at t2
 rw [q3] at t3
 rw [q4] at t4
 rw [q5] at t5
 refine h a2 W2 g2.fix s2.tmps s2.defers ?_ s2.os s2.tape s2.output s2.size (fun b hb => s2.old b hb fun h => h) s2.fixLt (fun b o hb => ?_) ?_ ?_ ?_ ?_
 ·rw [t1]
  show Value.pointer (some ⟨(g2.bx 1000001).b, 0, none⟩) = _
  rw [s2.bxOld 1000001 (by omega) (by omega)]
  rfl
 ·rcases Nat.lt_or_ge b W.heap.size with hlt | hge
  ·exact (s2.fixNew b o hlt (fun h => h) hb).1
  ·omega
 ·exact ⟨t2.1, t2.2.1⟩
 ·exact ⟨t3.1, t3.2.1⟩
 ·exact ⟨t4.1, t4.2.1⟩
 ·exact ⟨t5.1, t5.2.1⟩
theorem set13 {n : Nat} {W : World} (c0 : W.heap[n]? = some (.cells #[.int .i64 31, .int .i64 1, .int .i64 0, .int .i64 33, .int .i64 0, .int .i64 0] 54 (0, 0))) :
  (W.setCell ⟨n, 1, none⟩ (.int .i64 0)).heap.size = W.heap.size ∧ (∀ b, b ≠ n → (W.setCell ⟨n, 1, none⟩ (.int .i64 0)).heap[b]? = W.heap[b]?) ∧ (W.setCell ⟨n, 1, none⟩ (.int .i64 0)).heap[n]? = some (.cells #[.int .i64 31, .int .i64 0, .int .i64 0, .int .i64 33, .int .i64 0, .int .i64 0] 54 (0, 0)) := by
 refine ⟨by simp [World.setCell], fun b hb => ?_, ?_⟩
 ·simp [World.setCell, Array.getElem?_modify, Ne.symm hb]
 ·simp [World.setCell, Array.getElem?_modify, c0]
theorem hn13 : HN 1 tSS l13 ∧ HN 1 tySi64 [7, 4] := by
 constructor
 ·intro x hx
  refine ⟨trivial, fun y hy => ?_⟩
  have : y = (true, [], ()) := by
   simp only [l13, List.mem_cons, List.not_mem_nil, or_false] at hx
   rcases hx with rfl | rfl <;> simpa using hy
  subst this
  exact ⟨⟨trivial, trivial, trivial⟩, trivial, fun z hz => absurd hz List.not_mem_nil, trivial⟩
 ·intro x hx
  simp only [List.mem_cons, List.not_mem_nil, or_false] at hx
  rcases hx with rfl | rfl
  ·exact ⟨(by decide : (7 : Int) ≠ 1), trivial⟩
  ·exact ⟨(by decide : (4 : Int) ≠ 1), trivial⟩
theorem st13b {fix : Nat → Nat → Prop} {W : World} {n : Nat} {a : Act} (h : Mem13 n 0 W) (hf : ∀ b o, n ≤ b → b < n + 7 → fix b o) (hl : ∀ b o, fix b o → b < W.heap.size) (hs : a.tmps.size = 73) (hd : a.defers = []) (h1 : a.tmps.getD 1 undef = .pointer (some ⟨n + 6, 0, none⟩))
  (h2 : SV fix W tSS l13 (a.tmps.getD 2 undef)) (h3 : SV fix W (.int .i64) (-1 : Int) (a.tmps.getD 3 undef)) (h4 : SV fix W tySi64 [7, 4] (a.tmps.getD 4 undef)) (h5 : SV fix W (.int .i64) (0 : Int) (a.tmps.getD 5 undef)) :
  St W (fun _ => False) ⟨fix, B13 n⟩ 73 (e13b (m13 0) l13 (-1) [7, 4] 0) a W ⟨fix, fun _ => none, B13 n⟩ := by
 have s := st13 h hf hl hs hd h1
 have eb : ∀ i, e13b (m13 0) l13 (-1) [7, 4] 0 (.box i) = e13 (m13 0) (.box i) := fun i => rfl
 have es : ∀ t, t ≠ 2 → t ≠ 3 → t ≠ 4 → t ≠ 5 → e13b (m13 0) l13 (-1) [7, 4] 0 (.slot t) = e13 (m13 0) (.slot t) := fun t n2 n3 n4 n5 => by
  simp [e13b, Env.set, n2, n3, n4, n5]
 refine ⟨hd, hs, rfl, rfl, rfl, Nat.le_refl _, s.old, s.ownNew, hl, s.fixOld, s.fixNew, s.nle, s.bxOld, fun t => ?_, fun t => ?_, fun i => ?_, fun i k q1 q2 => ?_⟩
 ·by_cases t2 : t = 2
  ·subst t2; trivial
  by_cases t3 : t = 3
  ·subst t3; trivial
  by_cases t4 : t = 4
  ·subst t4; trivial
  by_cases t5 : t = 5
  ·subst t5; trivial
  rw [es t t2 t3 t4 t5]
  exact s.ptr t
 ·by_cases t2 : t = 2
  ·subst t2; exact ⟨h2.1, h2.2, fun h => by cases h⟩
  by_cases t3 : t = 3
  ·subst t3; exact ⟨h3.1, h3.2, fun h => by cases h⟩
  by_cases t4 : t = 4
  ·subst t4; exact ⟨h4.1, h4.2, fun h => by cases h⟩
  by_cases t5 : t = 5
  ·subst t5; exact ⟨h5.1, h5.2, fun h => by cases h⟩
  rw [es t t2 t3 t4 t5]
  exact s.slots t
 ·rw [eb]; exact s.boxes i
 ·rw [eb] at q1 q2; exact s.lnks i k q1 q2
theorem awake13O : FOk Try.prog 18 awake13S := by
 refine ⟨⟨Try.f18, Try.func18, rfl, rfl⟩, fun z r W fix own vs hz hfix hown hargs => ?_⟩
 cases vs with
 | cons => exact hargs.elim
 | nil =>
 have hr : r = (true, ()) := (Option.some.inj hz).symm
 subst hr
 refine calls_of_wp Try.func18 (c := c18) (by kernel_rfl) ?_
 have hN : Try.f18.ntmps = 73 := by kernel_rfl
 have e0 : ([] : List Value).toArray ++ Array.replicate (Try.f18.ntmps - ([] : List Value).toArray.size) undef = Array.replicate 73 undef := by
  rw [hN]
  exact Array.empty_append
 rw [e0]
 refine step01 fun a1 W1 s1 d1 p1 m1 z1 o1 os1 tp1 ou1 => ?_
 refine step23 m1 z1 s1 d1 p1 fun a2 W2 fx s2 d2 p2 os2 tp2 ou2 z2 o2 fl2 fn2 v2 v3 v4 v5 => ?_
 have m2 : Mem13 W.heap.size 1 W2 := ⟨(o2 _ (by omega)).trans m1.c0, (o2 _ (by omega)).trans m1.c1, (o2 _ (by omega)).trans m1.c2, (o2 _ (by omega)).trans m1.c3, (o2 _ (by omega)).trans m1.c4, (o2 _ (by omega)).trans m1.c5, (o2 _ (by omega)).trans m1.c6⟩
 refine step4 m2 s2 d2 p2 fun a3 s3 d3 p3 => ?_
 obtain ⟨z3, o3, c3⟩ := set13 m2.c0
 generalize hW3 : W2.setCell ⟨W.heap.size, 1, none⟩ (.int .i64 0) = W3 at z3 o3 c3
 have os3 : W3.os = W2.os := by rw [← hW3]; rfl
 have tp3 : W3.tape = W2.tape := by rw [← hW3]; rfl
 have ou3 : W3.output = W2.output := by rw [← hW3]; rfl
 have m3 : Mem13 W.heap.size 0 W3 := ⟨c3, (o3 _ (by omega)).trans m2.c1, (o3 _ (by omega)).trans m2.c2, (o3 _ (by omega)).trans m2.c3, (o3 _ (by omega)).trans m2.c4, (o3 _ (by omega)).trans m2.c5, (o3 _ (by omega)).trans m2.c6⟩
 let fx4 : Nat → Nat → Prop := fun b o => (W.heap.size ≤ b ∧ b < W.heap.size + 7) ∨ fx b o
 have turn : ∀ b o u, fx b o → W2.cell? ⟨b, o, none⟩ = some u → (∀ K, u ≠ .int K 1) → fx4 b o ∧ W3.cell? ⟨b, o, none⟩ = some u := fun b o u hb hu hk => by
  refine ⟨.inr hb, ?_⟩
  by_cases hbn : b = W.heap.size
  ·subst hbn
   rw [cell_of_heap m2.c0] at hu
   rw [cell_of_heap c3]
   rcases o with _ | _ | o
   ·exact hu
   ·exact absurd (Option.some.inj hu).symm (hk _)
   ·exact hu
  ·rw [World.cell?_of_block (w := W2) (o3 b hbn)]
   exact hu
 have w2 : SV fx4 W3 tSS l13 (a3.tmps.getD 2 undef) := by rw [p3 2 (by omega)]; exact ⟨v2.1, HN.turn turn _ _ _ hn13.1 v2.2⟩
 have w3 : SV fx4 W3 (.int .i64) (-1 : Int) (a3.tmps.getD 3 undef) := by rw [p3 3 (by omega)]; exact v3
 have w4 : SV fx4 W3 tySi64 [7, 4] (a3.tmps.getD 4 undef) := by rw [p3 4 (by omega)]; exact ⟨v4.1, HN.turn turn _ _ _ hn13.2 v4.2⟩
 have w5 : SV fx4 W3 (.int .i64) (0 : Int) (a3.tmps.getD 5 undef) := by rw [p3 5 (by omega)]; exact v5
 have hst := st13b (fix := fx4) m3 (fun b o h1 h2 => .inl ⟨h1, h2⟩) (fun b o hb => by
  rcases hb with hb | hb
  ·omega
  ·rw [z3]; exact fl2 b o hb) s3 d3 (by rw [p3 1 (by omega)]; exact p2) w2 w3 w4 w5
 refine exec_sound (A := A0) (fuel := 1) G13ok d5 hst exec56 fun x e4 a4 W4 g4 hk4 _ h4 => ?_
 cases x with
 | normal => cases hk4
 | exit _ => cases hk4
 | ret =>
 obtain ⟨t2, -⟩ := endAll_split [.val .bool] [] _ e4 (true, ()) hk4
 obtain ⟨us, u1, u2⟩ := end_res G13ok h4 rfl t2
 refine ⟨h4.defers, packVal us, results_run u1, _, fix, own, rfl, ⟨?_, ?_, ?_, ?_, fun b hb ho => ?_, fun b o hb => ⟨hb, fun u hu => ?_⟩, fun b o _ _ hb => hb, fun b o hb => ?_, fun b q hq => ⟨?_, fun _ => by rw [hq]; exact fun h => by cases h⟩⟩, u2, trivial⟩
 ·rw [h4.os, os3, os2, os1]
 ·rw [h4.tape, tp3, tp2, tp1]
 ·rw [h4.output, ou3, ou2, ou1]
 ·have := h4.size
  omega
 ·rw [h4.old b (by omega) (fun h => h), o3 b (by omega), o2 b (by omega), o1 b hb]
 ·have hb' := hfix b o hb
  rw [World.cell?_of_block (w := W) ?_]
  ·exact hu
  ·rw [h4.old b (by omega) (fun h => h), o3 b (by omega), o2 b (by omega), o1 b hb']
 ·have := hfix b o hb
  have := h4.size
  omega
 ·have := hown b q hq
  have := h4.size
  omega
end Go.Pli
