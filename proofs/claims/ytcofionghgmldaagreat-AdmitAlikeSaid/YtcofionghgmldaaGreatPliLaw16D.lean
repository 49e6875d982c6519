/- Whether an image is taken in: a fixed one; the laws. -/
import Derived.Test.YtcofionghgmldaaGreatPliLaw16C
import Derived.Test.YtcofionghgmldaaGreatPliLaw05
namespace Go.Pli
open Go Go.PM
theorem pick_one {α : Type} {f : Nat → Option α} {r : α} (K : Nat) (hK : f K = some r) (h : ∀ k, f k = none ∨ f k = some r) : pick f = some r := by
 unfold pick
 have hs : ∃ k, (f k).isSome := ⟨K, by rw [hK]; rfl⟩
 rw [dif_pos hs]
 have := hs.choose_spec
 rcases h hs.choose with h | h
 ·rw [h] at this; cases this
 ·exact h
theorem one_leave : fleave ([[]], [1], [1], [true], [0], 1, [], ()) 0 = some (([[]], [1], [1], [false], [], 1, [[0]], ()), ()) := by
 refine pick_one 1 (by kernel_rfl) fun k => ?_
 match k with
 | 0 => exact .inl (by kernel_rfl)
 | k + 1 => exact .inr (by kernel_rfl)
theorem one_enter : fenterN ([[]], [0], [0], [false], [], 0, [], ()) 0 = some (([[]], [1], [1], [true], [0], 1, [], ()), ()) := by kernel_rfl
theorem one_from2 (k : Nat) (rec) : ffromL2 (k + 1) ([((0 : Int), (0 : Int), ())], [1], [1], [true], [0], [], ([[]], (), (), (), (), 1, (), ()), ()) rec = rec ([], [1], [1], [false], [], [[0]], ([[]], (), (), (), (), 1, (), ()), ()) := by
 have h1 : ∀ rec3 rec5, ffromL1 ([((0 : Int), (0 : Int), ())], [1], [1], [true], [0], [], ([[]], (), (), (), (), 1, (), ()), ()) rec3 ([((0 : Int), (0 : Int), ())], 0, [1], ()) rec5 = (fleave ([[]], [1], [1], [true], [0], 1, [], ()) 0).bind fun r9 => rec3 ([], r9.1.2.1, r9.1.2.2.1, r9.1.2.2.2.1, r9.1.2.2.2.2.1, r9.1.2.2.2.2.2.2.1, (r9.1.1, (), (), (), (), r9.1.2.2.2.2.2.1, (), ()), ()) := fun rec3 rec5 => by kernel_rfl
 have h2 : ffromL2 (k + 1) ([((0 : Int), (0 : Int), ())], [1], [1], [true], [0], [], ([[]], (), (), (), (), 1, (), ()), ()) rec = loopF (ffromL1 ([((0 : Int), (0 : Int), ())], [1], [1], [true], [0], [], ([[]], (), (), (), (), 1, (), ()), ()) rec) (k + 1) ([((0 : Int), (0 : Int), ())], 0, [1], ()) := by kernel_rfl
 rw [h2, loopF_step, h1, one_leave]
 rfl
theorem one_from : ffrom ([[]], [0], [0], [false], [], 0, [], ()) 0 = some (([[]], [1], [1], [false], [], 1, [[0]], ()), ()) := by
 have h0 : ∀ k, ffromN k ([[]], [0], [0], [false], [], 0, [], ()) 0 = loopF (ffromL2 k) k ([((0 : Int), (0 : Int), ())], [1], [1], [true], [0], [], ([[]], (), (), (), (), 1, (), ()), ()) := by
  intro k
  unfold ffromN
  rw [one_enter]
  rfl
 have h2 : ∀ k, ffromN (k + 2) ([[]], [0], [0], [false], [], 0, [], ()) 0 = some (([[]], [1], [1], [false], [], 1, [[0]], ()), ()) := by
  intro k
  rw [h0, loopF_step, one_from2 (k + 1), loopF_step]
  kernel_rfl
 refine pick_one 2 (h2 0) fun k => ?_
 match k with
 | 0 => rw [h0]; exact .inl rfl
 | 1 => rw [h0, loopF_step, one_from2 0]; exact .inl rfl
 | k + 2 => exact .inr (h2 k)
theorem one_rings : rings [[]] = some ([[0]], ()) := by
 have h0 : ∀ k, ringsN k [[]] = loopF (ringsL1 [[]]) k (0, [0], [0], [false], [], [], ([[]], (), (), (), (), 0, (), ()), ()) := fun k => by kernel_rfl
 have h1 : ∀ rec, ringsL1 [[]] (0, [0], [0], [false], [], [], ([[]], (), (), (), (), 0, (), ()), ()) rec = (ffrom ([[]], [0], [0], [false], [], 0, [], ()) 0).bind fun r3 => rec (1, r3.1.2.1, r3.1.2.2.1, r3.1.2.2.2.1, r3.1.2.2.2.2.1, r3.1.2.2.2.2.2.2.1, (r3.1.1, (), (), (), (), r3.1.2.2.2.2.2.1, (), ()), ()) := fun rec => by kernel_rfl
 have h2 : ∀ k, ringsN (k + 2) [[]] = some ([[0]], ()) := by
  intro k
  rw [h0, loopF_step, h1, one_from]
  simp only [Option.bind_some]
  rw [loopF_step]
  kernel_rfl
 refine pick_one 2 (h2 0) fun k => ?_
 match k with
 | 0 => rw [h0]; exact .inl rfl
 | 1 => rw [h0, loopF_step, h1, one_from]; exact .inl rfl
 | k + 2 => exact .inr (h2 k)
def tiny (s : Int) : Im := ([], [], [], [([], [], (5, 0, ()), [(33, 0, 0, ())], 0, 0, [0], ())], [0], s, 0, ())
theorem tiny_told {s : Int} (hs : saneP (tiny s) = true) (ht : tcheck (tiny s) = some ([[(true, [], ())]], 0, 0, 0, ())) (hp : pcheck (tiny s) [[(true, [], ())]] = some (0, 0, ())) : Told (tiny s) ([[(true, [], ())]], 0, 0, 0, ()) (3, 0, 0, ()) (0, 0, ()) := by
 refine ⟨ht, rfl, ?_, hp⟩
 have h1 : ofAll (tiny s) = [[]] := by kernel_rfl
 have h2 : edOk (tiny s) = true := by kernel_rfl
 have h3 : okSS [[((true, [], ()) : Sh)]] = true := by rfl
 unfold aneeds dbound
 rw [hs, h1, h2, h3, one_rings]
 show _ = _
 kernel_rfl
theorem tiny3 : Told (tiny 3) ([[(true, [], ())]], 0, 0, 0, ()) (3, 0, 0, ()) (0, 0, ()) := tiny_told (by kernel_rfl) (by kernel_rfl) (by kernel_rfl)
theorem tiny2 : Told (tiny 2) ([[(true, [], ())]], 0, 0, 0, ()) (3, 0, 0, ()) (0, 0, ()) := tiny_told (by kernel_rfl) (by kernel_rfl) (by kernel_rfl)
theorem awake16_eq : awake16N = some (true, ()) := by
 have c3 : acheckN (tiny 3) = some ([[(true, [], ())]], 0, ()) := (acheck_told (by kernel_rfl) tiny3).trans (by kernel_rfl)
 have c2 : acheckN (tiny 2) = some ([], 7, ()) := (acheck_told (by kernel_rfl) tiny2).trans (by kernel_rfl)
 have n2 := tiny2.needs
 have b0 : abytesN [] = some ((([], [], [], [], [], 0, 0, ()) : Im), [], 2, ()) := by kernel_rfl
 unfold awake16N
 simp only [tiny] at c3 c2 n2
 rw [c3, c2, b0]
 simp only [Option.bind_some]
 rw [n2]
 show _ = _
 kernel_rfl
theorem admitAlike_law (m : Im) (h32 : ints32 m.2.2.1 = true) : admitAlikeN m = some (true, ()) := by
 unfold admitAlikeN
 rw [awake16_eq]
 cases hsm : small16 m
 ·rfl
 cases hi : ifits m
 ·rw [show r5fits m = ifits m from rfl, hi]; rfl
 have henc : r5encode m = some (encIm m, ()) := by unfold r5encode; rw [hi, h32]; rfl
 rw [show r5fits m = ifits m from rfl, hi, henc]
 simp only [Bool.not_true, cond_false, Option.bind_some]
 by_cases hl : ((encIm m).length : Int) > 8192
 ·simp only [hl, decide_true, cond_true]
 simp only [hl, decide_false, cond_false]
 obtain ⟨r, hr, hok, hnil⟩ := acheck_ends m
 have hdec := decode_enc hi h32 (rest := []) rfl (by rw [List.append_nil]; omega)
 rw [List.append_nil] at hdec
 have hdec' : idecode (encIm m) = some (m, 0, ()) := hdec
 have hb : abytesN (encIm m) = some (bif r.2.1 != 0 then ((([], [], [], [], [], 0, 0, ()) : Im), [], r.2.1, ()) else (m, r.1, 0, ())) := by
  have h0 : ((0 : Int) != 0) = false := rfl
  unfold abytesN
  rw [hdec']
  simp only [Option.bind_some, h0, cond_false, hr]
  cases r.2.1 != 0 <;> rfl
 rw [hr, hb]
 simp only [Option.bind_some]
 by_cases q0 : r.2.1 = 0
 ·have q1 : (r.2.1 != 0) = false := by simp [q0]
  have h0 : ((0 : Int) != 0) = false := rfl
  have hsame : r8same r.1 r.1 = some (true, ()) := by unfold r8same; rw [hok]; simp
  have hs5 : r5same m m = true := by unfold r5same; simp
  simp only [q0, h0, cond_true, cond_false, hs5, hsame, Option.bind_some]
 ·have q1 : (r.2.1 != 0) = true := by simp [q0]
  have hn := hnil q0
  simp only [q1, cond_true, bne_self_eq_false, cond_false, hn]
  rfl
end Go.Pli
