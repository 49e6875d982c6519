/- SaneTurned by hand: states of the machine that are laid by hand; what stays of a world. -/
import Derived.Test.YtibkgmpfncacpaaPliAt06
namespace Go.Pli
open Go Go.PM Go.Proofs
structure Elder (W W' : World) : Prop where
 os : W'.os = W.os
 tape : W'.tape = W.tape
 output : W'.output = W.output
 size : W.heap.size ≤ W'.heap.size
 old : ∀ b, b < W.heap.size → W'.heap[b]? = W.heap[b]?
theorem Elder.trans {W W1 W2 : World} (h : Elder W W1) (h' : Elder W1 W2) : Elder W W2 :=
 ⟨h'.os.trans h.os, h'.tape.trans h.tape, h'.output.trans h.output, Nat.le_trans h.size h'.size, fun b hb => (h'.old b (Nat.lt_of_lt_of_le hb h.size)).trans (h.old b hb)⟩
theorem Elder.refl (W : World) : Elder W W := ⟨rfl, rfl, rfl, Nat.le_refl _, fun _ _ => rfl⟩
theorem Elder.drawn (W : World) (k : Nat) : Elder W { W with drawn := k } := ⟨rfl, rfl, rfl, Nat.le_refl _, fun _ _ => rfl⟩
theorem St.elder {w0 W : World} {f0 : F0} {n : Nat} {e : Env} {a : Act} {g : Gh} (h : St w0 (fun _ => False) f0 n e a W g) : Elder w0 W :=
 ⟨h.os, h.tape, h.output, h.size, fun b hb => h.old b hb fun h => h⟩
section
variable {W : World} {n : Nat} {a : Act} {fix : Nat → Nat → Prop} {B : Nat → Bx} {e : Env}
def Laid (W : World) (n : Nat) (a : Act) (fix : Nat → Nat → Prop) (B : Nat → Bx) (e : Env) : Prop :=
 St W (fun _ => False) ⟨fix, B⟩ n e a W ⟨fix, fun _ => none, B⟩ ∧ ∀ i k, (e (.box i)).lnkAt k = false
theorem Laid.nil (hd : a.defers = []) (hs : a.tmps.size = n) (hn : n ≤ 1000000) (hl : ∀ b o, fix b o → b < W.heap.size) : Laid W n a fix B (fun _ => .unk) :=
 ⟨⟨hd, hs, rfl, rfl, rfl, Nat.le_refl _, fun _ _ _ => rfl, fun b q hq => (by cases hq), hl, fun b o h => ⟨h, fun _ h => h⟩, fun b o _ _ h => h, hn, fun _ _ _ => rfl, fun _ => trivial, fun _ => trivial, fun _ => trivial, fun _ _ h => by cases h⟩, fun _ _ => rfl⟩
theorem Laid.box (h : Laid W n a fix B e) {i : Nat} {pv : PV} (hb : BRep ⟨fix, fun _ => none, B⟩ W i pv) (he : e (.box i) = .unk) (hpv : ∀ k, pv.lnkAt k = false) : Laid W n a fix B (e.set (.box i) pv) := by
 have hnl : ∀ i' k, ((e.set (.box i) pv) (.box i')).lnkAt k = false := fun i' k => by
  simp only [Env.set]
  split
  ·exact hpv k
  ·exact h.2 i' k
 refine ⟨h.1.setBoxL hb ?_ (fun i' k q1 _ => by rw [hnl] at q1; cases q1), hnl⟩
 rw [he]
 exact ⟨(fun hh => by cases hh), fun _ _ _ hh => hh.elim, fun _ _ _ _ _ _ hh => hh.elim, fun _ _ _ _ _ _ hh => hh.elim, fun _ _ _ _ _ _ _ _ _ hh => hh.elim⟩
theorem Laid.slot (h : Laid W n a fix B e) {t : Nat} {pv : PV} (hs : SRep ⟨fix, fun _ => none, B⟩ W t pv (a.tmps.getD t undef)) (hp : PtrOk e ⟨fix, fun _ => none, B⟩ pv (a.tmps.getD t undef)) : Laid W n a fix B (e.set (.slot t) pv) :=
 ⟨h.1.setSlot hs hp, fun i k => by simpa [Env.set] using h.2 i k⟩
theorem Laid.int (h : Laid W n a fix B e) {t : Nat} {k : IntKind} {x : Int} (hv : a.tmps.getD t undef = .int k x) : Laid W n a fix B (e.set (.slot t) (.val ⟨.int k, x, false⟩)) :=
 h.slot (by rw [hv]; exact ⟨rfl, rfl, (fun hh => by cases hh)⟩) (not_ptr rfl _)
theorem Laid.told (h : Laid W n a fix B e) {t j : Nat} {r : Ty} {m v : Nat} (he : e (.box j) = .lrow r m 0 v) (hv : a.tmps.getD t undef = (B j).h) : Laid W n a fix B (e.set (.slot t) (.hdr j 0)) :=
 h.slot trivial (by
  show HOk (e (.box j)) (B j) 0 _
  rw [he]
  exact ⟨Nat.le_refl _, fun _ => hv⟩)
theorem Laid.ptr (h : Laid W n a fix B e) {t j : Nat} (he : (e (.box j)).isCell = true) (hv : a.tmps.getD t undef = .pointer (some ⟨(B j).b, 0, none⟩)) : Laid W n a fix B (e.set (.slot t) (.bptr j 0)) :=
 h.slot hv he
end
theorem told_eq {w0 W : World} {f0 : F0} {n : Nat} {e : Env} {a : Act} {g : Gh} (h : St w0 (fun _ => False) f0 n e a W g) {t j : Nat} (hj : 1000000 ≤ j ∧ j < 2000000) {r : Ty} {m v : Nat} (hs : e (.slot t) = .hdr j 0) (hb : e (.box j) = .lrow r m 0 v) : a.tmps.getD t undef = (f0.B j).h := by
 have hp := h.ptr t
 rw [hs] at hp
 have hp : HOk (e (.box j)) (g.bx j) 0 _ := hp
 rw [hb] at hp
 rw [hp.2 rfl, h.bxOld j hj.1 hj.2]
theorem ptr_eq {w0 W : World} {f0 : F0} {n : Nat} {e : Env} {a : Act} {g : Gh} (h : St w0 (fun _ => False) f0 n e a W g) {t j : Nat} (hj : 1000000 ≤ j ∧ j < 2000000) (hs : e (.slot t) = .bptr j 0) : a.tmps.getD t undef = .pointer (some ⟨(f0.B j).b, 0, none⟩) := by
 have hp := h.slots t
 rw [hs] at hp
 have hp : a.tmps.getD t undef = .pointer (some ⟨(g.bx j).b, 0, none⟩) := hp
 rw [hp, h.bxOld j hj.1 hj.2]
theorem asT_some {t : Ty} {p : PV} {x : t.D} (hx : asT t p = some x) : ∃ tp, p = .val ⟨t, x, tp⟩ := by
 cases p <;> try cases hx
 obtain ⟨tp, rfl⟩ := DV.as_eq (by assumption)
 exact ⟨tp, rfl⟩
theorem int_eq {w0 W : World} {f0 : F0} {n : Nat} {e : Env} {a : Act} {g : Gh} (h : St w0 (fun _ => False) f0 n e a W g) {t : Nat} {k : IntKind} {x : Int} (hx : asT (.int k) (e (.slot t)) = some x) : a.tmps.getD t undef = .int k x := by
 obtain ⟨tp, hs⟩ := asT_some hx
 have hp := h.slots t
 rw [hs] at hp
 have := hp.2.1
 have : [a.tmps.getD t undef] = [.int k x] := this
 injection this
theorem bool_eq {w0 W : World} {f0 : F0} {n : Nat} {e : Env} {a : Act} {g : Gh} (h : St w0 (fun _ => False) f0 n e a W g) {t : Nat} {x : Bool} (hx : asT .bool (e (.slot t)) = some x) : a.tmps.getD t undef = .bool x := by
 obtain ⟨tp, hs⟩ := asT_some hx
 have hp := h.slots t
 rw [hs] at hp
 have := hp.2.1
 have : [a.tmps.getD t undef] = [.bool x] := this
 injection this
end Go.Pli
