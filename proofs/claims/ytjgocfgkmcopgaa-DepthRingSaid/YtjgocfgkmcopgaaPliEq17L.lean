import Derived.Test.YtjgocfgkmcopgaaPliEq17
import Derived.Test.YtjgocfgkmcopgaaPliAw
namespace Go.Pli
open Go Go.PM
open Go.Proofs
noncomputable section
theorem depthBoundsC (hl : ∀ z, WfAll Try.prog depthBoundsT z → ∃ k, depthBoundsN k z.1 = some (true, ())) : FOk Try.prog 6 depthBoundsS := fk (cx [(12, rintsS), (17, sane13S), (18, awake13S), (19, r8allS), (20, dboundS), (21, r8boundS), (22, dframeS), (23, r8frameS)] [] 72 [1]) ⟨[(11, (4, [.val 9 ((.int .i64)) false]))], [], [(13, [[], [0], [0, 1], [], [0, 1, 2, 3], [0, 1, 2, 3, 4], [0, 1, 2, 3, 4, 5], [], []])], []⟩ ⟨rintsO, sane13O, awake13O, r8allO, dboundO, r8boundO, dframeO, r8frameO, trivial⟩ Try.func6 fun z r _ h => by
 by_cases hw : WfAll Try.prog depthBoundsT z
 ·obtain ⟨k, hk⟩ := hl z hw
  exact ⟨k, .trans (by kernel_rfl) (hk.trans ((if_pos hw).symm.trans h))⟩
 ·exact absurd ((if_neg hw).symm.trans h) (by intro h; cases h)
theorem depthCallsC (hl : ∀ z, WfAll Try.prog depthCallsT z → ∃ k, depthCallsN k z.1 = some (true, ())) : FOk Try.prog 7 depthCallsS := fk (cx [(11, r8edgesS), (15, r8waysS), (17, sane13S), (18, awake13S), (19, r8allS), (20, dboundS), (22, dframeS), (24, r8callsS)] [] 92 [1]) ⟨[(13, (9, [.val 8 ((.int .i64)) false])), (18, (4, [.val 9 ((.int .i64)) false]))], [], [(15, [[], [0], [], [], [0, 1, 2, 3], [0, 1, 2, 3, 4], [0, 1, 2, 3, 4, 5], [0, 1, 2, 3], []]), (20, [[], [0], [0, 1], [], [], [], [5], [], [], [5, 6, 7, 8], [], [], [], [], [], [], [15], [], [], [15, 16, 17, 18], [15, 16, 17, 18, 19], [15, 16, 17, 18, 19, 20], [15, 16, 17, 18], [15, 16, 17, 18, 19, 20, 21, 22], [15, 16, 17, 18, 19, 20, 21, 22, 23], [15, 16, 17, 18, 19, 20, 21, 22], [15, 16, 17, 18, 19, 20, 21, 22], [15, 16, 17, 18], [], []])], []⟩ ⟨r8edgesO, r8waysO, sane13O, awake13O, r8allO, dboundO, dframeO, r8callsO, trivial⟩ Try.func7 fun z r _ h => by
 by_cases hw : WfAll Try.prog depthCallsT z
 ·obtain ⟨k, hk⟩ := hl z hw
  exact ⟨k, .trans (by kernel_rfl) (hk.trans ((if_pos hw).symm.trans h))⟩
 ·exact absurd ((if_neg hw).symm.trans h) (by intro h; cases h)
theorem depthRingC (hl : ∀ z, WfAll Try.prog depthRingT z → ∃ k, depthRingN k z.1 = some (true, ())) : FOk Try.prog 8 depthRingS := fk (cx [(11, r8edgesS), (15, r8waysS), (17, sane13S), (18, awake13S), (19, r8allS), (20, dboundS)] [] 100 [1]) ⟨[(13, (7, [.val 8 ((.int .i64)) false])), (16, (4, [.val 9 ((.int .i64)) false]))], [], [(18, [[], [0], [], [], [0, 1, 2, 3], [], [], [], [], [8], [], [], [8, 9, 10, 11], [], [], [], [], [], [17], [], [], [17, 18, 19, 20], [17, 18, 19, 20, 21], [17, 18, 19, 20], [17, 18, 19, 20], [], [], [], [], [28], [], [], [28, 29, 30, 31], [], [], [], [], [36], [], [], [36, 37, 38, 39], [36, 37, 38, 39, 40], [36, 37, 38, 39], [36, 37, 38, 39], [], [], []])], []⟩ ⟨r8edgesO, r8waysO, sane13O, awake13O, r8allO, dboundO, trivial⟩ Try.func8 fun z r _ h => by
 by_cases hw : WfAll Try.prog depthRingT z
 ·obtain ⟨k, hk⟩ := hl z hw
  exact ⟨k, .trans (by kernel_rfl) (hk.trans ((if_pos hw).symm.trans h))⟩
 ·exact absurd ((if_neg hw).symm.trans h) (by intro h; cases h)
end
end Go.Pli
