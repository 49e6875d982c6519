/- Whether an image is taken in: a fixed one; the laws. -/
import Derived.Test.YtcofionghgmldaaGreatPliLaw16C
import Derived.Test.YtcofionghgmldaaGreatPliLaw05
namespace Go.Pli
open Go Go.PM
theorem u8_of_wf {P : Program} {u : Int} (h : Wf P (.int .u8) u) : 0 ≤ u ∧ u < 256 := by
  have h : IntKind.u8.min ≤ u ∧ u ≤ IntKind.u8.max := h
  have e1 : IntKind.u8.min = 0 := rfl
  have e2 : IntKind.u8.max = 255 := rfl
  omega
theorem pick_one {α : Type} {f : Nat → Option α} {r : α} (K : Nat) (hK : f K = some r) (h : ∀ k, f k = none ∨ f k = some r) : pick f = some r := by
  unfold pick
  have hs : ∃ k, (f k).isSome := ⟨K, by rw [hK]; rfl⟩
  rw [dif_pos hs]
  have := hs.choose_spec
  rcases h hs.choose with h | h
  · rw [h] at this; cases this
  · exact h
theorem one_leave : fleave ([[]], [1], [1], [true], [0], 1, [], ()) 0 = some (([[]], [1], [1], [false], [], 1, [[0]], ()), ()) := by
  refine pick_one 1 (by kernel_rfl) fun k => ?_
  match k with
  | 0 => exact .inl (by kernel_rfl)
  | k + 1 => exact .inr (by kernel_rfl)
theorem one_enter : fenterN ([[]], [0], [0], [false], [], 0, [], ()) 0 = some (([[]], [1], [1], [true], [0], 1, [], ()), ()) := by kernel_rfl
theorem one_from2 (k : Nat) (rec) : ffromL2 (k + 1) ([((0 : Int), (0 : Int), ())], [1], [1], [true], [0], [], ([[]], (), (), (), (), 1, (), ()), ()) rec = rec ([], [1], [1], [false], [], [[0]], ([[]], (), (), (), (), 1, (), ()), ()) := by
  have h1 : ∀ rec3 rec5, ffromL1 ([((0 : Int), (0 : Int), ())], [1], [1], [true], [0], [], ([[]], (), (), (), (), 1, (), ()), ()) rec3 ([((0 : Int), (0 : Int), ())], 0, [1], ()) rec5 = (fleave ([[]], [1], [1], [true], [0], 1, [], ()) 0).bind fun r9 => rec3 ([], r9.1.2.1, r9.1.2.2.1, r9.1.2.2.2.1, r9.1.2.2.2.2.1, r9.1.2.2.2.2.2.2.1, (r9.1.1, (), (), (), (), r9.1.2.2.2.2.2.1, (), ()), ()) := fun rec3 rec5 => by kernel_rfl
  have h2 : ffromL2 (k + 1) ([((0 : Int), (0 : Int), ())], [1], [1], [true], [0], [], ([[]], (), (), (), (), 1, (), ()), ()) rec = loopF (ffromL1 ([((0 : Int), (0 : Int), ())], [1], [1], [true], [0], [], ([[]], (), (), (), (), 1, (), ()), ()) rec) (k + 1) ([((0 : Int), (0 : Int), ())], 0, [1], ()) := by kernel_rfl
  rw [h2, loopF_step, h1, one_leave]
  rfl
theorem one_from : ffrom ([[]], [0], [0], [false], [], 0, [], ()) 0 = some (([[]], [1], [1], [false], [], 1, [[0]], ()), ()) := by
  have h0 : ∀ k, ffromN k ([[]], [0], [0], [false], [], 0, [], ()) 0 = loopF (ffromL2 k) k ([((0 : Int), (0 : Int), ())], [1], [1], [true], [0], [], ([[]], (), (), (), (), 1, (), ()), ()) := by
    intro k
    unfold ffromN
    rw [one_enter]
    rfl
  have h2 : ∀ k, ffromN (k + 2) ([[]], [0], [0], [false], [], 0, [], ()) 0 = some (([[]], [1], [1], [false], [], 1, [[0]], ()), ()) := by
    intro k
    rw [h0, loopF_step, one_from2 (k + 1), loopF_step]
    kernel_rfl
  refine pick_one 2 (h2 0) fun k => ?_
  match k with
  | 0 => rw [h0]; exact .inl rfl
  | 1 => rw [h0, loopF_step, one_from2 0]; exact .inl rfl
  | k + 2 => exact .inr (h2 k)
theorem one_rings : rings [[]] = some ([[0]], ()) := by
  have h0 : ∀ k, ringsN k [[]] = loopF (ringsL1 [[]]) k (0, [0], [0], [false], [], [], ([[]], (), (), (), (), 0, (), ()), ()) := fun k => by kernel_rfl
  have h1 : ∀ rec, ringsL1 [[]] (0, [0], [0], [false], [], [], ([[]], (), (), (), (), 0, (), ()), ()) rec = (ffrom ([[]], [0], [0], [false], [], 0, [], ()) 0).bind fun r3 => rec (1, r3.1.2.1, r3.1.2.2.1, r3.1.2.2.2.1, r3.1.2.2.2.2.1, r3.1.2.2.2.2.2.2.1, (r3.1.1, (), (), (), (), r3.1.2.2.2.2.2.1, (), ()), ()) := fun rec => by kernel_rfl
  have h2 : ∀ k, ringsN (k + 2) [[]] = some ([[0]], ()) := by
    intro k
    rw [h0, loopF_step, h1, one_from]
    simp only [Option.bind_some]
    rw [loopF_step]
    kernel_rfl
  refine pick_one 2 (h2 0) fun k => ?_
  match k with
  | 0 => rw [h0]; exact .inl rfl
  | 1 => rw [h0, loopF_step, h1, one_from]; exact .inl rfl
  | k + 2 => exact .inr (h2 k)
def tiny (s : Int) : Im := ([], [], [], [([], [], (5, 0, ()), [(33, 0, 0, ())], 0, 0, [0], ())], [0], s, 0, ())
theorem tiny_told {s : Int} (hs : saneP (tiny s) = true) (ht : tcheck (tiny s) = some ([[(true, [], ())]], 0, 0, 0, ())) (hp : pcheck (tiny s) [[(true, [], ())]] = some (0, 0, ())) : Told (tiny s) ([[(true, [], ())]], 0, 0, 0, ()) (3, 0, 0, ()) (0, 0, ()) := by
  refine ⟨ht, rfl, ?_, hp⟩
  have h1 : ofAll (tiny s) = [[]] := by kernel_rfl
  have h2 : edOk (tiny s) = true := by kernel_rfl
  have h3 : okSS [[((true, [], ()) : Sh)]] = true := by rfl
  unfold aneeds dbound
  rw [hs, h1, h2, h3, one_rings]
  show _ = _
  kernel_rfl
theorem tiny3 : Told (tiny 3) ([[(true, [], ())]], 0, 0, 0, ()) (3, 0, 0, ()) (0, 0, ()) := tiny_told (by kernel_rfl) (by kernel_rfl) (by kernel_rfl)
theorem tiny2 : Told (tiny 2) ([[(true, [], ())]], 0, 0, 0, ()) (3, 0, 0, ()) (0, 0, ()) := tiny_told (by kernel_rfl) (by kernel_rfl) (by kernel_rfl)
theorem awake16_eq : awake16N = some (true, ()) := by
  have c3 : acheckN (tiny 3) = some ([[(true, [], ())]], 0, ()) := (acheck_told (by kernel_rfl) tiny3).trans (by kernel_rfl)
  have c2 : acheckN (tiny 2) = some ([], 7, ()) := (acheck_told (by kernel_rfl) tiny2).trans (by kernel_rfl)
  have n2 := tiny2.needs
  have b0 : abytesN [] = some ((([], [], [], [], [], 0, 0, ()) : Im), [], 2, ()) := by kernel_rfl
  unfold awake16N
  simp only [tiny] at c3 c2 n2
  rw [c3, c2, b0]
  simp only [Option.bind_some]
  rw [n2]
  show _ = _
  kernel_rfl
theorem admitMore_law (m : Im) (a b : Int) (ha : 0 ≤ a ∧ a < 256) (hb : 0 ≤ b ∧ b < 256) : admitMoreN m a b = some (true, ()) := by
  unfold admitMoreN
  rw [awake16_eq]
  cases hsm : small16 m
  · rfl
  simp only [Bool.not_true, cond_false, Option.bind_some]
  have wa : IntKind.i64.wrap a = a := by rw [w64'] <;> omega
  have wb : IntKind.i64.wrap b = b := by rw [w64'] <;> omega
  have ta : 0 ≤ a.tmod 90 ∧ a.tmod 90 < 90 := by
    rw [Int.tmod_eq_emod_of_nonneg ha.1]; omega
  have tb : 0 ≤ b.tmod 90 ∧ b.tmod 90 < 90 := by
    rw [Int.tmod_eq_emod_of_nonneg hb.1]; omega
  rw [wa, wb]
  generalize a.tmod 90 = x at ta ⊢
  generalize b.tmod 90 = y at tb ⊢
  -- the other image
  obtain ⟨s, hs, hsS⟩ : ∃ s, (bif decide (m.2.2.2.2.2.1 ≥ 0) then
      bif decide (m.2.2.2.2.2.1 < 4000) then
        (some (.inl ((m.1, m.2.1, m.2.2.1, m.2.2.2.1, m.2.2.2.2.1, IntKind.i64.wrap (m.2.2.2.2.2.1 + x), m.2.2.2.2.2.2), ())) : Option ((Im × Unit) ⊕ (Bool × Unit)))
      else some (.inl (m, ()))
    else some (.inl (m, ()))) = some (.inl (room m s m.2.2.2.2.2.2.1, ())) ∧ m.2.2.2.2.2.1 ≤ s ∧ (s = m.2.2.2.2.2.1 ∨ (0 ≤ m.2.2.2.2.2.1 ∧ m.2.2.2.2.2.1 < 4000 ∧ s ≤ 4096)) := by
    by_cases h0 : m.2.2.2.2.2.1 ≥ 0
    · by_cases h1 : m.2.2.2.2.2.1 < 4000
      · refine ⟨m.2.2.2.2.2.1 + x, ?_, by omega, .inr ⟨h0, h1, by omega⟩⟩
        simp only [h0, h1, decide_true, cond_true]
        rw [w64' (by omega) (by omega)]
        rfl
      · exact ⟨m.2.2.2.2.2.1, by simp only [h0, h1, decide_true, decide_false, cond_true, cond_false]; rfl, Int.le_refl _, .inl rfl⟩
    · exact ⟨m.2.2.2.2.2.1, by simp only [h0, decide_false, cond_false]; rfl, Int.le_refl _, .inl rfl⟩
  have hh : ∃ h, (bif decide (m.2.2.2.2.2.2.1 ≥ 0) then
      bif decide (m.2.2.2.2.2.2.1 < 4000) then
        (some (.inl (((room m s m.2.2.2.2.2.2.1).1, (room m s m.2.2.2.2.2.2.1).2.1, (room m s m.2.2.2.2.2.2.1).2.2.1, (room m s m.2.2.2.2.2.2.1).2.2.2.1, (room m s m.2.2.2.2.2.2.1).2.2.2.2.1, (room m s m.2.2.2.2.2.2.1).2.2.2.2.2.1, IntKind.i64.wrap ((room m s m.2.2.2.2.2.2.1).2.2.2.2.2.2.1 + y), ()), ())) : Option ((Im × Unit) ⊕ (Bool × Unit)))
      else some (.inl (room m s m.2.2.2.2.2.2.1, ()))
    else some (.inl (room m s m.2.2.2.2.2.2.1, ()))) = some (.inl (room m s h, ())) ∧ m.2.2.2.2.2.2.1 ≤ h ∧ (h = m.2.2.2.2.2.2.1 ∨ (0 ≤ m.2.2.2.2.2.2.1 ∧ m.2.2.2.2.2.2.1 < 4000 ∧ h ≤ 4096)) := by
    by_cases h0 : m.2.2.2.2.2.2.1 ≥ 0
    · by_cases h1 : m.2.2.2.2.2.2.1 < 4000
      · refine ⟨m.2.2.2.2.2.2.1 + y, ?_, by omega, .inr ⟨h0, h1, by omega⟩⟩
        have e : (room m s m.2.2.2.2.2.2.1).2.2.2.2.2.2.1 = m.2.2.2.2.2.2.1 := rfl
        simp only [h0, h1, decide_true, cond_true, e]
        rw [w64' (by omega) (by omega)]
        rfl
      · exact ⟨m.2.2.2.2.2.2.1, by simp only [h0, h1, decide_true, decide_false, cond_true, cond_false], Int.le_refl _, .inl rfl⟩
    · exact ⟨m.2.2.2.2.2.2.1, by simp only [h0, decide_false, cond_false], Int.le_refl _, .inl rfl⟩
  obtain ⟨h, hh, hle, hhS⟩ := hh
  have hfit : ifits (room m s h) = ifits m := by
    have e1 : iwithin s 4096 = iwithin m.2.2.2.2.2.1 4096 := by
      rcases hsS.2 with rfl | ⟨h0, h1, h2⟩
      · rfl
      · unfold iwithin
        have := hsS.1
        rw [decide_eq_true (show 0 ≤ s by omega), decide_eq_true h2, decide_eq_true h0, decide_eq_true (show m.2.2.2.2.2.1 ≤ 4096 by omega)]
    have e2 : iwithin h 4096 = iwithin m.2.2.2.2.2.2.1 4096 := by
      rcases hhS with rfl | ⟨h0, h1, h2⟩
      · rfl
      · unfold iwithin
        rw [decide_eq_true (show 0 ≤ h by omega), decide_eq_true h2, decide_eq_true h0, decide_eq_true (show m.2.2.2.2.2.2.1 ≤ 4096 by omega)]
    unfold ifits
    show (_ && (_ && (_ && (_ && (_ && (_ && (_ && (iwithin s 4096 && iwithin h 4096)))))))) = _
    rw [e1, e2]
    rfl
  obtain ⟨r, r', hr, hr', k1, k2⟩ := more_room hfit hsS.1 hle
  rw [hr, Option.bind_some, hs]
  simp only [Option.bind_some]
  rw [hh]
  simp only [Option.bind_some]
  rw [hr', Option.bind_some]
  by_cases q0 : r.2.1 = 0
  · have q1 := k1 q0
    simp only [q0, q1]
    rfl
  · have q1 : (r.2.1 != 0) = true := by simp [q0]
    have q2 : (r.2.1 == 0) = false := by simp [q0]
    simp only [q1, q2, cond_true, cond_false]
    rcases k2 with k | k | k
    · simp only [k]; rfl
    · cases r'.2.1 == 0 <;> simp only [cond_true, cond_false]
      simp only [k, beq_self_eq_true, cond_true]
    · cases r'.2.1 == 0 <;> cases r.2.1 == r'.2.1 <;> simp only [cond_true, cond_false]
      rw [k]; rfl
end Go.Pli
