import Derived.Test.YtibkgmpfncacpaaPliEq5
import Derived.Test.YtibkgmpfncacpaaPliL5G
import Derived.KernelRfl
namespace Go.Pli
open Go Go.PM

open Go.Proofs
def putOS : FSpec := ⟨[.take 5 ((.int .u8)), .val ((.int .i64))], [.own 5 ((.int .u8))], fun z => put z.1 z.2.1⟩
def longOS : FSpec := ⟨[.take 5 ((.int .u8)), .val ((.int .i32))], [.own 5 ((.int .u8))], fun z => longN z.1 z.2.1⟩
def iputOS : FSpec := ⟨[.take 5 ((.int .u8)), .val (tyTIns)], [.own 5 ((.int .u8))], fun z => iput z.1 z.2.1⟩
def putTypeOS : FSpec := ⟨[.take 5 ((.int .u8)), .val (tyTTp)], [.own 5 ((.int .u8))], fun z => putType z.1 z.2.1⟩
def putTypesOS : FSpec := ⟨[.take 5 ((.int .u8)), .val (tyStyTTp)], [.own 5 ((.int .u8))], fun z => putTypes z.1 z.2.1⟩
def putNumsOS : FSpec := ⟨[.take 5 ((.int .u8)), .val (tySi64)], [.own 5 ((.int .u8))], fun z => putNums z.1 z.2.1⟩
def putMethodOS : FSpec := ⟨[.take 5 ((.int .u8)), .val (tyTMt)], [.own 5 ((.int .u8))], fun z => putMethod z.1 z.2.1⟩
def clipByOS : FSpec := ⟨[.take 5 ((.int .u8))], [.own 5 ((.int .u8))], fun z => some (idL z.1, ())⟩
def iencodeOS : FSpec := ⟨[.val (tyTIm)], [.own 5 ((.int .u8)), .val ((.int .i64))], fun z => iencode z.1⟩
def imageTurnedT : List Ty := [tyTIm, (.int .u16), (.int .u8)]
noncomputable def imageTurnedS : FSpec := ⟨[.val (tyTIm), .val ((.int .u16)), .val ((.int .u8))], [.val (.bool)], fun z => @ite _ (WfAll Try.prog imageTurnedT z) (Classical.propDecidable _) (some (true, ())) none⟩

def putOG : Ctx := { ty := [(3, (.int .i64)), (5, (.int .u8)), (46, tySu8), (113, (.int .u64))], fns := [], tips := [11, 20], n := 25, bxs := [0, 4, 17, 24], ptrs := [], rows := [0, 4, 17, 24] }
def putOA : Ann := ⟨[(2, (3, [.own 0 5 ((.int .u8)), .val 5 ((.int .u64)) false]))], [], [], []⟩
theorem putOE (fuel : Nat) (b : List Int) (n : Int) : fnRun putOG putOA fuel Try.f32 [.take 5 ((.int .u8)), .val ((.int .i64))] [.own 5 ((.int .u8))] (b, n, ()) = putON fuel b n := by kernel_rfl
theorem putOO : FOk Try.prog 32 putOS := fok (G := putOG) (fn := Try.f32) (A := putOA) (ctxOk (by kernel_rfl) (by kernel_rfl) trivial) Try.func32 (by kernel_rfl) (by kernel_rfl) fun z r _ h => (putO_ok _ _ r h).elim fun k hk => ⟨k, (putOE k z.1 z.2.1).trans hk⟩

def longOG : Ctx := { ty := [(3, (.int .i64)), (21, (.int .i32)), (46, tySu8), (115, (.int .u32))], fns := [(1000000000032, putOS)], tips := [5], n := 15, bxs := [0, 4, 14], ptrs := [], rows := [4] }
def longOA : Ann := ⟨[], [], [], []⟩
theorem longOE (fuel : Nat) (b : List Int) (n : Int) : fnRun longOG longOA fuel Try.f35 [.take 5 ((.int .u8)), .val ((.int .i32))] [.own 5 ((.int .u8))] (b, n, ()) = longON b n := by kernel_rfl
theorem longOO : FOk Try.prog 35 longOS := fok (G := longOG) (fn := Try.f35) (A := longOA) (ctxOk (by kernel_rfl) (by kernel_rfl) ⟨putOO, trivial⟩) Try.func35 (by kernel_rfl) (by kernel_rfl) fun z r _ h => ⟨0, (longOE 0 z.1 z.2.1).trans (longO_ok _ _ r h)⟩

def iputOG : Ctx := { ty := [(3, (.int .i64)), (26, tySi64), (41, tyTIns), (46, tySu8)], fns := [(120, iargsS), (1000000000032, putOS)], tips := [7, 26], n := 31, bxs := [0, 3, 4, 10, 28], ptrs := [], rows := [0, 4] }
def iputOA : Ann := ⟨[(3, (4, [.own 0 5 ((.int .u8)), .val 22 ((.int .i64)) false]))], [], [(2, [[], [], [0, 1], [0, 1], [], [0, 1, 2, 3, 4], [0, 1, 2, 3, 4], [0, 1, 2, 3, 4], [0, 1, 2, 3, 4], [], [], [0, 1, 2, 3, 4, 5, 6, 7, 8, 9, 10]])], []⟩
theorem iputOE (fuel : Nat) (b : List Int) (i : Ins) : fnRun iputOG iputOA fuel Try.f95 [.take 5 ((.int .u8)), .val (tyTIns)] [.own 5 ((.int .u8))] (b, i, ()) = iputON fuel b i := by kernel_rfl
theorem iputOO : FOk Try.prog 95 iputOS := fok (G := iputOG) (fn := Try.f95) (A := iputOA) (ctxOk (by kernel_rfl) (by kernel_rfl) ⟨iargsO, putOO, trivial⟩) Try.func95 (by kernel_rfl) (by kernel_rfl) fun z r _ h => (iputO_ok _ _ r h).elim fun k hk => ⟨k, (iputOE k z.1 z.2.1).trans hk⟩

def putTypeOG : Ctx := { ty := [(3, (.int .i64)), (35, tyTTp), (46, tySu8)], fns := [(1000000000032, putOS)], tips := [5, 12], n := 17, bxs := [0, 3, 4, 8, 15], ptrs := [], rows := [0, 4] }
def putTypeOA : Ann := ⟨[], [], [], []⟩
theorem putTypeOE (fuel : Nat) (b : List Int) (t : Tp) : fnRun putTypeOG putTypeOA fuel Try.f94 [.take 5 ((.int .u8)), .val (tyTTp)] [.own 5 ((.int .u8))] (b, t, ()) = putTypeON b t := by kernel_rfl
theorem putTypeOO : FOk Try.prog 94 putTypeOS := fok (G := putTypeOG) (fn := Try.f94) (A := putTypeOA) (ctxOk (by kernel_rfl) (by kernel_rfl) ⟨putOO, trivial⟩) Try.func94 (by kernel_rfl) (by kernel_rfl) fun z r _ h => ⟨0, (putTypeOE 0 z.1 z.2.1).trans (putTypeO_ok _ _ r h)⟩

def putTypesOG : Ctx := { ty := [(23, tyStyTTp), (35, tyTTp), (46, tySu8)], fns := [(1000000000032, putOS), (1000000000094, putTypeOS)], tips := [7, 17], n := 22, bxs := [0, 4, 10, 6, 19], ptrs := [], rows := [0, 4] }
def putTypesOA : Ann := ⟨[(3, (4, [.own 0 5 ((.int .u8)), .val 13 ((.int .i64)) false]))], [], [], []⟩
theorem putTypesOE (fuel : Nat) (b : List Int) (l : List Tp) : fnRun putTypesOG putTypesOA fuel Try.f34 [.take 5 ((.int .u8)), .val (tyStyTTp)] [.own 5 ((.int .u8))] (b, l, ()) = putTypesON fuel b l := by kernel_rfl
theorem putTypesOO : FOk Try.prog 34 putTypesOS := fok (G := putTypesOG) (fn := Try.f34) (A := putTypesOA) (ctxOk (by kernel_rfl) (by kernel_rfl) ⟨putOO, putTypeOO, trivial⟩) Try.func34 (by kernel_rfl) (by kernel_rfl) fun z r _ h => (putTypesO_ok _ _ r h).elim fun k hk => ⟨k, (putTypesOE k z.1 z.2.1).trans hk⟩

def putNumsOG : Ctx := { ty := [(3, (.int .i64)), (26, tySi64), (46, tySu8)], fns := [(1000000000032, putOS)], tips := [7, 17], n := 22, bxs := [0, 4, 10, 19], ptrs := [], rows := [0, 4] }
def putNumsOA : Ann := ⟨[(3, (4, [.own 0 5 ((.int .u8)), .val 13 ((.int .i64)) false]))], [], [], []⟩
theorem putNumsOE (fuel : Nat) (b : List Int) (l : List Int) : fnRun putNumsOG putNumsOA fuel Try.f33 [.take 5 ((.int .u8)), .val (tySi64)] [.own 5 ((.int .u8))] (b, l, ()) = putNumsON fuel b l := by kernel_rfl
theorem putNumsOO : FOk Try.prog 33 putNumsOS := fok (G := putNumsOG) (fn := Try.f33) (A := putNumsOA) (ctxOk (by kernel_rfl) (by kernel_rfl) ⟨putOO, trivial⟩) Try.func33 (by kernel_rfl) (by kernel_rfl) fun z r _ h => (putNumsO_ok _ _ r h).elim fun k hk => ⟨k, (putNumsOE k z.1 z.2.1).trans hk⟩

def putMethodOG : Ctx := { ty := [(3, (.int .i64)), (23, tyStyTTp), (26, tySi64), (35, tyTTp), (36, tyStyTIns), (38, tyTMt), (41, tyTIns), (46, tySu8)], fns := [(1000000000032, putOS), (1000000000033, putNumsOS), (1000000000034, putTypesOS), (1000000000094, putTypeOS), (1000000000095, iputOS)], tips := [7, 17, 29, 33], n := 43, bxs := [0, 3, 4, 10, 13, 16, 21, 6, 31, 36, 39, 42], ptrs := [], rows := [0, 4] }
def putMethodOA : Ann := ⟨[(4, (4, [.own 0 5 ((.int .u8)), .val 25 ((.int .i64)) false]))], [], [(1, [[], [0], [0], [], [0, 1, 2, 3], [0, 1, 2, 3], [], [0, 1, 2, 3, 4, 5, 6], [0, 1, 2, 3, 4, 5, 6], [], []]), (8, [[], [0], [0], [], [0, 1, 2, 3], [0, 1, 2, 3], [], [0, 1, 2, 3, 4, 5, 6], [0, 1, 2, 3, 4, 5, 6], [], []])], []⟩
theorem putMethodOE (fuel : Nat) (b : List Int) (x : Mt) : fnRun putMethodOG putMethodOA fuel Try.f36 [.take 5 ((.int .u8)), .val (tyTMt)] [.own 5 ((.int .u8))] (b, x, ()) = putMethodON fuel b x := by kernel_rfl
theorem putMethodOO : FOk Try.prog 36 putMethodOS := fok (G := putMethodOG) (fn := Try.f36) (A := putMethodOA) (ctxOk (by kernel_rfl) (by kernel_rfl) ⟨putOO, putNumsOO, putTypesOO, putTypeOO, iputOO, trivial⟩) Try.func36 (by kernel_rfl) (by kernel_rfl) fun z r _ h => (putMethodO_ok _ _ r h).elim fun k hk => ⟨k, (putMethodOE k z.1 z.2.1).trans hk⟩

def clipByOG : Ctx := { ty := [(46, tySu8)], fns := [], tips := [], n := 9, bxs := [0, 8], ptrs := [], rows := [1, 8] }
def clipByOA : Ann := ⟨[], [], [], []⟩
theorem clipByOE (fuel : Nat) (s : List Int) : fnRun clipByOG clipByOA fuel Try.f37 [.take 5 ((.int .u8))] [.own 5 ((.int .u8))] (s, ()) = clipByON s := by kernel_rfl
theorem clipByOO : FOk Try.prog 37 clipByOS := fok (G := clipByOG) (fn := Try.f37) (A := clipByOA) (ctxOk (by kernel_rfl) (by kernel_rfl) trivial) Try.func37 (by kernel_rfl) (by kernel_rfl) fun z r _ h => ⟨0, (clipByOE 0 z.1).trans ((clipByO_eq _).trans h)⟩

def iencodeOG : Ctx := { ty := [(3, (.int .i64)), (21, (.int .i32)), (22, tyStyTCl), (23, tyStyTTp), (24, tySi32), (25, tyStyTMt), (26, tySi64), (28, tyTIm), (38, tyTMt), (44, tyTCl), (46, tySu8)], fns := [(19, ifitsS), (1000000000032, putOS), (1000000000033, putNumsOS), (1000000000034, putTypesOS), (1000000000035, longOS), (1000000000036, putMethodOS), (1000000000037, clipByOS)], tips := [27, 39, 54, 58, 70, 74], n := 89, bxs := [1, 2, 14, 15, 19, 4, 6, 31, 34, 37, 42, 46, 56, 62, 10, 72, 77, 80, 83, 88], ptrs := [], rows := [2, 4, 14, 15] }
def iencodeOA : Ann := ⟨[(5, (4, [.own 4 5 ((.int .u8)), .val 23 ((.int .i64)) false])), (11, (4, [.own 4 5 ((.int .u8)), .val 50 ((.int .i64)) false])), (17, (4, [.own 4 5 ((.int .u8)), .val 66 ((.int .i64)) false]))], [], [(7, [[], [0], [0], [0], [], [0, 1, 2, 3, 4], [0, 1, 2, 3, 4], [], [0, 1, 2, 3, 4, 5, 6, 7], [0, 1, 2, 3, 4, 5, 6, 7], [], []]), (9, [[], [0], [0], [], [0, 1, 2, 3], [0, 1, 2, 3], [0, 1, 2, 3], [], []]), (21, [[], [0], [0], [], [0, 1, 2, 3], [0, 1, 2, 3], [], [0, 1, 2, 3, 4, 5, 6], [0, 1, 2, 3, 4, 5, 6], [], []])], []⟩
theorem iencodeOE (fuel : Nat) (m : Im) : fnRun iencodeOG iencodeOA fuel Try.f17 [.val (tyTIm)] [.own 5 ((.int .u8)), .val ((.int .i64))] (m, ()) = iencodeON fuel m := by kernel_rfl
theorem iencodeOO : FOk Try.prog 17 iencodeOS := fok (G := iencodeOG) (fn := Try.f17) (A := iencodeOA) (ctxOk (by kernel_rfl) (by kernel_rfl) ⟨ifitsO, putOO, putNumsOO, putTypesOO, longOO, putMethodOO, clipByOO, trivial⟩) Try.func17 (by kernel_rfl) (by kernel_rfl) fun z r _ h => (iencodeO_ok _ r h).elim fun k hk => ⟨k, (iencodeOE k z.1).trans hk⟩

def imageTurnedG : Ctx := { ty := [(3, (.int .i64)), (5, (.int .u8)), (28, tyTIm), (46, tySu8), (55, (.int .u16))], fns := [(15, small5S), (16, awake5S), (17, iencodeOS), (21, idecodeS), (22, r5sameS)], tips := [], n := 63, bxs := [3, 21, 9], ptrs := [], thaws := [48] }
def imageTurnedA : Ann := ⟨[], [], [], []⟩
theorem imageTurnedE (fuel : Nat) (m : Im) (a : Int) (t : Int) : fnRun imageTurnedG imageTurnedA fuel Try.f9 [.val (tyTIm), .val ((.int .u16)), .val ((.int .u8))] [.val (.bool)] (m, a, t, ()) = imageTurnedN m a t := by kernel_rfl
theorem imageTurnedC (hl : ∀ z, WfAll Try.prog imageTurnedT z → imageTurnedN z.1 z.2.1 z.2.2.1 = some (true, ())) : FOk Try.prog 9 imageTurnedS := fok (G := imageTurnedG) (fn := Try.f9) (A := imageTurnedA) (ctxOk (by kernel_rfl) (by kernel_rfl) ⟨small5O, awake5O, iencodeOO, idecodeO, r5sameO, trivial⟩) Try.func9 (by kernel_rfl) (by kernel_rfl) fun z r _ h => by
  by_cases hw : WfAll Try.prog imageTurnedT z
  · refine ⟨0, (imageTurnedE 0 z.1 z.2.1 z.2.2.1).trans ((hl z hw).trans ?_)⟩
    rw [← h]
    exact (if_pos hw).symm
  · have hn : imageTurnedS.run z = none := if_neg hw
    rw [hn] at h
    cases h

end Go.Pli
