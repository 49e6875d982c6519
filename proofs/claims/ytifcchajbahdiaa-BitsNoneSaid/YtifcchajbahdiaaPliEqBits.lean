import Derived.Test.YtifcchajbahdiaaPliInst
import Derived.Test.YtifcchajbahdiaaPMKit
import Derived.Test.YtifcchajbahdiaaPMSaid
import Derived.Test.YtifcchajbahdiaaProg
import Derived.KernelRfl
namespace Go.Pli
open Go Go.PM

open Go.Proofs
def putS : FSpec := ⟨[.tip (.sl 5 (.int .u8)), .val (.int .i64)], [.tip (.sl 5 (.int .u8))], fun z => put z.1 z.2.1⟩
def longS : FSpec := ⟨[.tip (.sl 5 (.int .u8)), .val (.int .i32)], [.tip (.sl 5 (.int .u8))], fun z => longN z.1 z.2.1⟩
def newS : FSpec := ⟨[.val (.sl 5 (.int .u8))], [.box 56 (.pair (.sl 5 (.int .u8)) (.pair (.bool) (.unit)))], fun z => some (newN z.1, ())⟩
def nextS : FSpec := ⟨[.box 56 (.pair (.sl 5 (.int .u8)) (.pair (.bool) (.unit)))], [.val (.int .u64), .val (.bool)], fun z => next z.1⟩
def getS : FSpec := ⟨[.box 56 (.pair (.sl 5 (.int .u8)) (.pair (.bool) (.unit))), .val (.int .i64)], [.val (.int .i64)], fun z => getN z.1 z.2.1⟩
def glongS : FSpec := ⟨[.box 56 (.pair (.sl 5 (.int .u8)) (.pair (.bool) (.unit)))], [.val (.int .i32)], fun z => glongN z.1⟩
def badS : FSpec := ⟨[.box 56 (.pair (.sl 5 (.int .u8)) (.pair (.bool) (.unit)))], [.val (.bool)], fun z => some (badN z.1)⟩
def finS : FSpec := ⟨[.box 56 (.pair (.sl 5 (.int .u8)) (.pair (.bool) (.unit)))], [.val (.bool)], fun z => finN z.1⟩
def rbytesS : FSpec := ⟨[.val (.int .i64)], [.tip (.sl 5 (.int .u8))], fun z => rbytes z.1⟩
def rsignedS : FSpec := ⟨[.val (.int .i32)], [.tip (.sl 5 (.int .u8))], fun z => rsignedN z.1⟩
def rnextS : FSpec := ⟨[.val (.sl 5 (.int .u8))], [.val (.int .i64), .val (.int .i64)], fun z => rnext z.1⟩
def rinS : FSpec := ⟨[.val (.sl 3 (.int .i64)), .val (.int .i64)], [.val (.bool)], fun z => rin z.1 z.2.1⟩
def rargsS : FSpec := ⟨[.val (.int .i64)], [.val (.int .i64)], fun z => some (rargs z.1, ())⟩
def getNilS : FSpec := ⟨[.nilp, .val (.int .i64)], [.val (.int .i64)], fun z => some (getNilN z.1 z.2.1, ())⟩
def glongNilS : FSpec := ⟨[.nilp], [.val (.int .i32)], fun z => glongNilN z.1⟩
def badNilS : FSpec := ⟨[.nilp], [.val (.bool)], fun z => some (badNilN z.1, ())⟩
def finNilS : FSpec := ⟨[.nilp], [.val (.bool)], fun z => some (finNilN z.1, ())⟩
def awake2S : FSpec := ⟨[], [.val (.bool)], fun _ => awake2N⟩
def bitsPutsT : List Ty := [.sl 5 (.int .u8), .int .i64, .int .i32]
noncomputable def bitsPutsS : FSpec := ⟨[.val (.sl 5 (.int .u8)), .val (.int .i64), .val (.int .i32)], [.val (.bool)], fun z => @ite _ (WfAll Try.prog bitsPutsT z) (Classical.propDecidable _) (some (true, ())) none⟩
def bitsGetsT : List Ty := [.sl 5 (.int .u8), .sl 34 (.int .u16)]
noncomputable def bitsGetsS : FSpec := ⟨[.val (.sl 5 (.int .u8)), .val (.sl 34 (.int .u16))], [.val (.bool)], fun z => @ite _ (WfAll Try.prog bitsGetsT z) (Classical.propDecidable _) (some (true, ())) none⟩
def bitsBackT : List Ty := [.sl 40 (.int .u32), .sl 21 (.int .i32)]
noncomputable def bitsBackS : FSpec := ⟨[.val (.sl 40 (.int .u32)), .val (.sl 21 (.int .i32))], [.val (.bool)], fun z => @ite _ (WfAll Try.prog bitsBackT z) (Classical.propDecidable _) (some (true, ())) none⟩
def bitsNoneT : List Ty := [.int .i64]
noncomputable def bitsNoneS : FSpec := ⟨[.val (.int .i64)], [.val (.bool)], fun z => @ite _ (WfAll Try.prog bitsNoneT z) (Classical.propDecidable _) (some (true, ())) none⟩
def bitsShortT : List Ty := [.int .u32, .int .u32]
noncomputable def bitsShortS : FSpec := ⟨[.val (.int .u32), .val (.int .u32)], [.val (.bool)], fun z => @ite _ (WfAll Try.prog bitsShortT z) (Classical.propDecidable _) (some (true, ())) none⟩
def iargsS : FSpec := ⟨[.val (.int .i64)], [.val (.int .i64)], fun z => some (iargs z.1, ())⟩
def withinS : FSpec := ⟨[.val (.int .i64), .val (.int .i64), .val (.int .i64)], [.val (.bool)], fun z => some (within z.1 z.2.1 z.2.2.1, ())⟩
def igoodS : FSpec := ⟨[.val (.pair (.int .i64) (.pair (.int .i64) (.pair (.int .i64) (.unit))))], [.val (.bool)], fun z => some (igood z.1, ())⟩
def iputS : FSpec := ⟨[.tip (.sl 5 (.int .u8)), .val (.pair (.int .i64) (.pair (.int .i64) (.pair (.int .i64) (.unit))))], [.tip (.sl 5 (.int .u8))], fun z => iput z.1 z.2.1⟩
def igetS : FSpec := ⟨[.box 56 (.pair (.sl 5 (.int .u8)) (.pair (.bool) (.unit)))], [.val (.pair (.int .i64) (.pair (.int .i64) (.pair (.int .i64) (.unit))))], fun z => igetN z.1⟩
def rinstrS : FSpec := ⟨[.val (.pair (.int .i64) (.pair (.int .i64) (.pair (.int .i64) (.unit))))], [.val (.bool)], fun z => some (rinstr z.1, ())⟩
def awake4S : FSpec := ⟨[], [.val (.bool)], fun _ => awake4N⟩
def instKindsT : List Ty := [.pair (.int .i64) (.pair (.int .i64) (.pair (.int .i64) (.unit)))]
noncomputable def instKindsS : FSpec := ⟨[.val (.pair (.int .i64) (.pair (.int .i64) (.pair (.int .i64) (.unit))))], [.val (.bool)], fun z => @ite _ (WfAll Try.prog instKindsT z) (Classical.propDecidable _) (some (true, ())) none⟩
def instPutsT : List Ty := [.sl 5 (.int .u8), .pair (.int .i64) (.pair (.int .i64) (.pair (.int .i64) (.unit)))]
noncomputable def instPutsS : FSpec := ⟨[.val (.sl 5 (.int .u8)), .val (.pair (.int .i64) (.pair (.int .i64) (.pair (.int .i64) (.unit))))], [.val (.bool)], fun z => @ite _ (WfAll Try.prog instPutsT z) (Classical.propDecidable _) (some (true, ())) none⟩
def instGetsT : List Ty := [.sl 5 (.int .u8)]
noncomputable def instGetsS : FSpec := ⟨[.val (.sl 5 (.int .u8))], [.val (.bool)], fun z => @ite _ (WfAll Try.prog instGetsT z) (Classical.propDecidable _) (some (true, ())) none⟩
def instRowT : List Ty := [.sl 45 (.pair (.int .i64) (.pair (.int .i64) (.pair (.int .i64) (.unit))))]
noncomputable def instRowS : FSpec := ⟨[.val (.sl 45 (.pair (.int .i64) (.pair (.int .i64) (.pair (.int .i64) (.unit)))))], [.val (.bool)], fun z => @ite _ (WfAll Try.prog instRowT z) (Classical.propDecidable _) (some (true, ())) none⟩

def putG : Ctx := ⟨[(3, .int .i64), (5, .int .u8), (22, .sl 5 (.int .u8)), (53, .int .u64)], [], [11, 20], 25, [], []⟩
def putA : Ann := ⟨[(2, (3, [.val 0 (.sl 5 (.int .u8)) true, .val 5 (.int .u64) false]))], [], []⟩
theorem putE (fuel : Nat) (b : List Int) (n : Int) : fnRun putG putA fuel Try.f13 [.tip (.sl 5 (.int .u8)), .val (.int .i64)] [.tip (.sl 5 (.int .u8))] (b, n, ()) = putN fuel b n := by kernel_rfl
theorem putO : FOk Try.prog 13 putS := fok (G := putG) (fn := Try.f13) (A := putA) (ctxOk (by kernel_rfl) (by kernel_rfl) trivial) Try.func13 (by kernel_rfl) (by kernel_rfl) fun z r h => (put_ok _ _ r h).elim fun k hk => ⟨k, (putE k z.1 z.2.1).trans hk⟩

def longG : Ctx := ⟨[(3, .int .i64), (21, .int .i32), (22, .sl 5 (.int .u8)), (40, .int .u32)], [(13, putS)], [5], 15, [], []⟩
def longA : Ann := ⟨[], [], []⟩
theorem longE (fuel : Nat) (b : List Int) (n : Int) : fnRun longG longA fuel Try.f14 [.tip (.sl 5 (.int .u8)), .val (.int .i32)] [.tip (.sl 5 (.int .u8))] (b, n, ()) = longN b n := by kernel_rfl
theorem longO : FOk Try.prog 14 longS := fok (G := longG) (fn := Try.f14) (A := longA) (ctxOk (by kernel_rfl) (by kernel_rfl) ⟨putO, trivial⟩) Try.func14 (by kernel_rfl) (by kernel_rfl) fun z r h => ⟨0, (longE 0 z.1 z.2.1).trans h⟩

def newG : Ctx := ⟨[(56, .pair (.sl 5 (.int .u8)) (.pair (.bool) (.unit)))], [], [], 6, [5], []⟩
def newA : Ann := ⟨[], [], []⟩
theorem newE (fuel : Nat) (b : List Int) : fnRun newG newA fuel Try.f17 [.val (.sl 5 (.int .u8))] [.box 56 (.pair (.sl 5 (.int .u8)) (.pair (.bool) (.unit)))] (b, ()) = some (newN b, ()) := by kernel_rfl
theorem newO : FOk Try.prog 17 newS := fok (G := newG) (fn := Try.f17) (A := newA) (ctxOk (by kernel_rfl) (by kernel_rfl) trivial) Try.func17 (by kernel_rfl) (by kernel_rfl) fun z r h => ⟨0, (newE 0 z.1).trans h⟩

def nextG : Ctx := ⟨[(5, .int .u8), (22, .sl 5 (.int .u8)), (53, .int .u64), (56, .pair (.sl 5 (.int .u8)) (.pair (.bool) (.unit)))], [], [], 47, [1000000], []⟩
def nextA : Ann := ⟨[(3, (8, [.val 4 (.int .u64) false, .val 12 (.int .i64) false]))], [], []⟩
theorem nextE (fuel : Nat) (r : List Int × Bool × Unit) : fnRun nextG nextA fuel Try.f30 [.box 56 (.pair (.sl 5 (.int .u8)) (.pair (.bool) (.unit)))] [.val (.int .u64), .val (.bool)] (r, ()) = nextN fuel r := by kernel_rfl
theorem nextO : FOk Try.prog 30 nextS := fok (G := nextG) (fn := Try.f30) (A := nextA) (ctxOk (by kernel_rfl) (by kernel_rfl) trivial) Try.func30 (by kernel_rfl) (by kernel_rfl) fun z r h => (next_ok _ r h).elim fun k hk => ⟨k, (nextE k z.1).trans hk⟩

def getG : Ctx := ⟨[(3, .int .i64), (4, .bool), (53, .int .u64), (56, .pair (.sl 5 (.int .u8)) (.pair (.bool) (.unit)))], [(30, nextS)], [], 37, [1000000], [30]⟩
def getA : Ann := ⟨[], [], []⟩
theorem getE (fuel : Nat) (r : List Int × Bool × Unit) (n : Int) : fnRun getG getA fuel Try.f20 [.box 56 (.pair (.sl 5 (.int .u8)) (.pair (.bool) (.unit))), .val (.int .i64)] [.val (.int .i64)] (r, n, ()) = getN r n := by kernel_rfl
theorem getO : FOk Try.prog 20 getS := fok (G := getG) (fn := Try.f20) (A := getA) (ctxOk (by kernel_rfl) (by kernel_rfl) ⟨nextO, trivial⟩) Try.func20 (by kernel_rfl) (by kernel_rfl) fun z r h => ⟨0, (getE 0 z.1 z.2.1).trans h⟩

def glongG : Ctx := ⟨[(3, .int .i64), (21, .int .i32), (40, .int .u32)], [(20, getS)], [], 15, [1000000], []⟩
def glongA : Ann := ⟨[], [], []⟩
theorem glongE (fuel : Nat) (r : List Int × Bool × Unit) : fnRun glongG glongA fuel Try.f19 [.box 56 (.pair (.sl 5 (.int .u8)) (.pair (.bool) (.unit)))] [.val (.int .i32)] (r, ()) = glongN r := by kernel_rfl
theorem glongO : FOk Try.prog 19 glongS := fok (G := glongG) (fn := Try.f19) (A := glongA) (ctxOk (by kernel_rfl) (by kernel_rfl) ⟨getO, trivial⟩) Try.func19 (by kernel_rfl) (by kernel_rfl) fun z r h => ⟨0, (glongE 0 z.1).trans h⟩

def badG : Ctx := ⟨[(4, .bool), (56, .pair (.sl 5 (.int .u8)) (.pair (.bool) (.unit)))], [], [], 11, [1000000], [30]⟩
def badA : Ann := ⟨[], [], []⟩
theorem badE (fuel : Nat) (r : List Int × Bool × Unit) : fnRun badG badA fuel Try.f21 [.box 56 (.pair (.sl 5 (.int .u8)) (.pair (.bool) (.unit)))] [.val (.bool)] (r, ()) = some (badN r) := by kernel_rfl
theorem badO : FOk Try.prog 21 badS := fok (G := badG) (fn := Try.f21) (A := badA) (ctxOk (by kernel_rfl) (by kernel_rfl) trivial) Try.func21 (by kernel_rfl) (by kernel_rfl) fun z r h => ⟨0, (badE 0 z.1).trans h⟩

def finG : Ctx := ⟨[(4, .bool), (22, .sl 5 (.int .u8)), (56, .pair (.sl 5 (.int .u8)) (.pair (.bool) (.unit)))], [], [], 20, [1000000], [30]⟩
def finA : Ann := ⟨[], [], []⟩
theorem finE (fuel : Nat) (r : List Int × Bool × Unit) : fnRun finG finA fuel Try.f22 [.box 56 (.pair (.sl 5 (.int .u8)) (.pair (.bool) (.unit)))] [.val (.bool)] (r, ()) = finN r := by kernel_rfl
theorem finO : FOk Try.prog 22 finS := fok (G := finG) (fn := Try.f22) (A := finA) (ctxOk (by kernel_rfl) (by kernel_rfl) trivial) Try.func22 (by kernel_rfl) (by kernel_rfl) fun z r h => ⟨0, (finE 0 z.1).trans h⟩

def rbytesG : Ctx := ⟨[(3, .int .i64), (5, .int .u8), (22, .sl 5 (.int .u8))], [], [9, 18], 23, [], []⟩
def rbytesA : Ann := ⟨[(4, (3, [.val 0 (.int .i64) false, .val 3 (.sl 5 (.int .u8)) true]))], [(1, (2, [.val 0 (.int .i64) false]))], []⟩
theorem rbytesE (fuel : Nat) (n : Int) : fnRun rbytesG rbytesA fuel Try.f15 [.val (.int .i64)] [.tip (.sl 5 (.int .u8))] (n, ()) = rbytesN fuel n := by kernel_rfl
theorem rbytesO : FOk Try.prog 15 rbytesS := fok (G := rbytesG) (fn := Try.f15) (A := rbytesA) (ctxOk (by kernel_rfl) (by kernel_rfl) trivial) Try.func15 (by kernel_rfl) (by kernel_rfl) fun z r h => (rbytes_ok _ r h).elim fun k hk => ⟨k, (rbytesE k z.1).trans hk⟩

def rsignedG : Ctx := ⟨[(3, .int .i64), (21, .int .i32), (22, .sl 5 (.int .u8))], [(15, rbytesS)], [], 14, [], []⟩
def rsignedA : Ann := ⟨[], [], []⟩
theorem rsignedE (fuel : Nat) (n : Int) : fnRun rsignedG rsignedA fuel Try.f16 [.val (.int .i32)] [.tip (.sl 5 (.int .u8))] (n, ()) = rsignedN n := by kernel_rfl
theorem rsignedO : FOk Try.prog 16 rsignedS := fok (G := rsignedG) (fn := Try.f16) (A := rsignedA) (ctxOk (by kernel_rfl) (by kernel_rfl) ⟨rbytesO, trivial⟩) Try.func16 (by kernel_rfl) (by kernel_rfl) fun z r h => ⟨0, (rsignedE 0 z.1).trans h⟩

def rnextG : Ctx := ⟨[(3, .int .i64), (5, .int .u8), (22, .sl 5 (.int .u8))], [], [], 46, [], []⟩
def rnextA : Ann := ⟨[(3, (8, [.val 4 (.int .i64) false, .val 5 (.int .i64) false, .val 6 (.int .i64) false]))], [], []⟩
theorem rnextE (fuel : Nat) (b : List Int) : fnRun rnextG rnextA fuel Try.f18 [.val (.sl 5 (.int .u8))] [.val (.int .i64), .val (.int .i64)] (b, ()) = rnextN fuel b := by kernel_rfl
theorem rnextO : FOk Try.prog 18 rnextS := fok (G := rnextG) (fn := Try.f18) (A := rnextA) (ctxOk (by kernel_rfl) (by kernel_rfl) trivial) Try.func18 (by kernel_rfl) (by kernel_rfl) fun z r h => (rnext_ok _ r h).elim fun k hk => ⟨k, (rnextE k z.1).trans hk⟩

def rinG : Ctx := ⟨[(3, .int .i64), (59, .sl 3 (.int .i64))], [], [], 18, [], []⟩
def rinA : Ann := ⟨[(2, (4, [.val 5 (.int .i64) false]))], [], []⟩
theorem rinE (fuel : Nat) (l : List Int) (x : Int) : fnRun rinG rinA fuel Try.f31 [.val (.sl 3 (.int .i64)), .val (.int .i64)] [.val (.bool)] (l, x, ()) = rinN fuel l x := by kernel_rfl
theorem rinO : FOk Try.prog 31 rinS := fok (G := rinG) (fn := Try.f31) (A := rinA) (ctxOk (by kernel_rfl) (by kernel_rfl) trivial) Try.func31 (by kernel_rfl) (by kernel_rfl) fun z r h => (rin_ok _ _ r h).elim fun k hk => ⟨k, (rinE k z.1 z.2.1).trans hk⟩

def rargsG : Ctx := ⟨[(59, .sl 3 (.int .i64))], [(31, rinS)], [], 24, [], []⟩
def rargsA : Ann := ⟨[], [], []⟩
theorem rargsE (fuel : Nat) (o : Int) : fnRun rargsG rargsA fuel Try.f25 [.val (.int .i64)] [.val (.int .i64)] (o, ()) = rargsN o := by kernel_rfl
theorem rargsO : FOk Try.prog 25 rargsS := fok (G := rargsG) (fn := Try.f25) (A := rargsA) (ctxOk (by kernel_rfl) (by kernel_rfl) ⟨rinO, trivial⟩) Try.func25 (by kernel_rfl) (by kernel_rfl) fun z r h => ⟨0, (rargsE 0 z.1).trans ((rargs_eq _).trans h)⟩

def getNilG : Ctx := ⟨[], [], [], 37, [], [30]⟩
def getNilA : Ann := ⟨[], [], []⟩
theorem getNilE (fuel : Nat) (r : Unit) (n : Int) : fnRun getNilG getNilA fuel Try.f20 [.nilp, .val (.int .i64)] [.val (.int .i64)] (r, n, ()) = some (getNilN r n, ()) := by kernel_rfl
theorem getNilO : FOk Try.prog 20 getNilS := fok (G := getNilG) (fn := Try.f20) (A := getNilA) (ctxOk (by kernel_rfl) (by kernel_rfl) trivial) Try.func20 (by kernel_rfl) (by kernel_rfl) fun z r h => ⟨0, (getNilE 0 z.1 z.2.1).trans h⟩

def glongNilG : Ctx := ⟨[(3, .int .i64), (21, .int .i32), (40, .int .u32)], [(1000020, getNilS)], [], 15, [], []⟩
def glongNilA : Ann := ⟨[], [], []⟩
theorem glongNilE (fuel : Nat) (r : Unit) : fnRun glongNilG glongNilA fuel Try.f19 [.nilp] [.val (.int .i32)] (r, ()) = glongNilN r := by kernel_rfl
theorem glongNilO : FOk Try.prog 19 glongNilS := fok (G := glongNilG) (fn := Try.f19) (A := glongNilA) (ctxOk (by kernel_rfl) (by kernel_rfl) ⟨getNilO, trivial⟩) Try.func19 (by kernel_rfl) (by kernel_rfl) fun z r h => ⟨0, (glongNilE 0 z.1).trans h⟩

def badNilG : Ctx := ⟨[], [], [], 11, [], [30]⟩
def badNilA : Ann := ⟨[], [], []⟩
theorem badNilE (fuel : Nat) (r : Unit) : fnRun badNilG badNilA fuel Try.f21 [.nilp] [.val (.bool)] (r, ()) = some (badNilN r, ()) := by kernel_rfl
theorem badNilO : FOk Try.prog 21 badNilS := fok (G := badNilG) (fn := Try.f21) (A := badNilA) (ctxOk (by kernel_rfl) (by kernel_rfl) trivial) Try.func21 (by kernel_rfl) (by kernel_rfl) fun z r h => ⟨0, (badNilE 0 z.1).trans h⟩

def finNilG : Ctx := ⟨[], [], [], 20, [], [30]⟩
def finNilA : Ann := ⟨[], [], []⟩
theorem finNilE (fuel : Nat) (r : Unit) : fnRun finNilG finNilA fuel Try.f22 [.nilp] [.val (.bool)] (r, ()) = some (finNilN r, ()) := by kernel_rfl
theorem finNilO : FOk Try.prog 22 finNilS := fok (G := finNilG) (fn := Try.f22) (A := finNilA) (ctxOk (by kernel_rfl) (by kernel_rfl) trivial) Try.func22 (by kernel_rfl) (by kernel_rfl) fun z r h => ⟨0, (finNilE 0 z.1).trans h⟩

def awake2G : Ctx := ⟨[(5, .int .u8), (22, .sl 5 (.int .u8))], [(13, putS), (14, longS), (17, newS), (19, glongS), (20, getS), (21, badS), (22, finS), (25, rargsS)], [], 51, [6], []⟩
def awake2A : Ann := ⟨[], [], []⟩
theorem awake2E (fuel : Nat) : fnRun awake2G awake2A fuel Try.f12 [] [.val (.bool)] () = awake2N := by kernel_rfl
theorem awake2O : FOk Try.prog 12 awake2S := fok (G := awake2G) (fn := Try.f12) (A := awake2A) (ctxOk (by kernel_rfl) (by kernel_rfl) ⟨putO, longO, newO, glongO, getO, badO, finO, rargsO, trivial⟩) Try.func12 (by kernel_rfl) (by kernel_rfl) fun z r h => ⟨0, (awake2E 0).trans h⟩

def bitsPutsG : Ctx := ⟨[(9, .str), (22, .sl 5 (.int .u8))], [(12, awake2S), (13, putS), (14, longS), (15, rbytesS), (16, rsignedS)], [], 50, [], []⟩
def bitsPutsA : Ann := ⟨[], [], [(4, [[], [], [], [], [2, 3], [2, 3], [2, 3, 4, 5], [2, 3, 4, 5], [2, 3, 4, 5], [2, 3], [], [], [], [], [], [13, 14], [13, 14], [13, 14, 15, 16], [13, 14, 15, 16], [13, 14, 15, 16], [13, 14], [], [], []])]⟩
theorem bitsPutsE (fuel : Nat) (b : List Int) (n : Int) (m : Int) : fnRun bitsPutsG bitsPutsA fuel Try.f3 [.val (.sl 5 (.int .u8)), .val (.int .i64), .val (.int .i32)] [.val (.bool)] (b, n, m, ()) = bitsPutsN b n m := by kernel_rfl
theorem bitsPutsC (hl : ∀ z, WfAll Try.prog bitsPutsT z → bitsPutsN z.1 z.2.1 z.2.2.1 = some (true, ())) : FOk Try.prog 3 bitsPutsS := fok (G := bitsPutsG) (fn := Try.f3) (A := bitsPutsA) (ctxOk (by kernel_rfl) (by kernel_rfl) ⟨awake2O, putO, longO, rbytesO, rsignedO, trivial⟩) Try.func3 (by kernel_rfl) (by kernel_rfl) fun z r h => by
  by_cases hw : WfAll Try.prog bitsPutsT z
  · refine ⟨0, (bitsPutsE 0 z.1 z.2.1 z.2.2.1).trans ((hl z hw).trans ?_)⟩
    rw [← h]
    exact (if_pos hw).symm
  · have hn : bitsPutsS.run z = none := if_neg hw
    rw [hn] at h
    cases h

def bitsGetsG : Ctx := ⟨[(3, .int .i64), (4, .bool), (9, .str), (22, .sl 5 (.int .u8)), (29, .sl 34 (.int .u16)), (34, .int .u16)], [(12, awake2S), (16, rsignedS), (17, newS), (18, rnextS), (19, glongS), (20, getS), (21, badS), (22, finS)], [], 118, [19], []⟩
def bitsGetsA : Ann := ⟨[(6, (22, [.val 6 (.int .i64) false, .val 7 (.bool) false, .val 8 (.int .i64) false, .box 19 56 [(.sl 5 (.int .u8), false), (.bool, false)]]))], [(1, (2, [.val 0 (.sl 5 (.int .u8)) false])), (8, (20, [.val 6 (.int .i64) false, .val 7 (.bool) false, .box 19 56 [(.sl 5 (.int .u8), false), (.bool, false)]])), (9, (17, [.val 6 (.int .i64) false, .val 7 (.bool) false, .box 19 56 [(.sl 5 (.int .u8), false), (.bool, false)]])), (11, (1, [.val 53 (.bool) false])), (19, (1, [.val 91 (.bool) false]))], [(12, [[], [], [], [0, 1, 2], [0, 1, 2, 3], [0, 1, 2, 3, 4], [0, 1, 2, 3, 4, 5], [0, 1, 2, 3, 4], [0, 1, 2], [0, 1, 2], []])]⟩
theorem bitsGetsE (fuel : Nat) (b : List Int) (l : List Int) : fnRun bitsGetsG bitsGetsA fuel Try.f4 [.val (.sl 5 (.int .u8)), .val (.sl 34 (.int .u16))] [.val (.bool)] (b, l, ()) = bitsGetsN fuel b l := by kernel_rfl
theorem bitsGetsC (hl : ∀ z, WfAll Try.prog bitsGetsT z → ∃ k, bitsGetsN k z.1 z.2.1 = some (true, ())) : FOk Try.prog 4 bitsGetsS := fok (G := bitsGetsG) (fn := Try.f4) (A := bitsGetsA) (ctxOk (by kernel_rfl) (by kernel_rfl) ⟨awake2O, rsignedO, newO, rnextO, glongO, getO, badO, finO, trivial⟩) Try.func4 (by kernel_rfl) (by kernel_rfl) fun z r h => by
  by_cases hw : WfAll Try.prog bitsGetsT z
  · obtain ⟨k, hk⟩ := hl z hw
    refine ⟨k, (bitsGetsE k z.1 z.2.1).trans (hk.trans ?_)⟩
    rw [← h]
    exact (if_pos hw).symm
  · have hn : bitsGetsS.run z = none := if_neg hw
    rw [hn] at h
    cases h

def bitsBackG : Ctx := ⟨[(3, .int .i64), (21, .int .i32), (22, .sl 5 (.int .u8)), (38, .sl 40 (.int .u32)), (39, .sl 21 (.int .i32)), (40, .int .u32)], [(12, awake2S), (13, putS), (14, longS), (17, newS), (19, glongS), (20, getS), (22, finS)], [22, 39], 87, [46], []⟩
def bitsBackA : Ann := ⟨[(3, (3, [.val 5 (.sl 5 (.int .u8)) true, .val 6 (.int .i64) false])), (7, (3, [.val 5 (.sl 5 (.int .u8)) true, .val 7 (.int .i64) false])), (12, (4, [.val 9 (.int .i64) false, .box 46 56 [(.sl 5 (.int .u8), false), (.bool, false)]])), (17, (4, [.val 10 (.int .i64) false, .box 46 56 [(.sl 5 (.int .u8), false), (.bool, false)]]))], [(2, (4, [.val 5 (.sl 5 (.int .u8)) true])), (6, (4, [.val 5 (.sl 5 (.int .u8)) true])), (11, (5, [.box 46 56 [(.sl 5 (.int .u8), false), (.bool, false)]]))], [(14, [[], [], [0, 1], [0, 1, 2], [0, 1], [0, 1], [0, 1], []]), (19, [[], [], [0, 1], [0, 1, 2], [0, 1], [0, 1], []])]⟩
theorem bitsBackE (fuel : Nat) (l : List Int) (g : List Int) : fnRun bitsBackG bitsBackA fuel Try.f5 [.val (.sl 40 (.int .u32)), .val (.sl 21 (.int .i32))] [.val (.bool)] (l, g, ()) = bitsBackN fuel l g := by kernel_rfl
theorem bitsBackC (hl : ∀ z, WfAll Try.prog bitsBackT z → ∃ k, bitsBackN k z.1 z.2.1 = some (true, ())) : FOk Try.prog 5 bitsBackS := fok (G := bitsBackG) (fn := Try.f5) (A := bitsBackA) (ctxOk (by kernel_rfl) (by kernel_rfl) ⟨awake2O, putO, longO, newO, glongO, getO, finO, trivial⟩) Try.func5 (by kernel_rfl) (by kernel_rfl) fun z r h => by
  by_cases hw : WfAll Try.prog bitsBackT z
  · obtain ⟨k, hk⟩ := hl z hw
    refine ⟨k, (bitsBackE k z.1 z.2.1).trans (hk.trans ?_)⟩
    rw [← h]
    exact (if_pos hw).symm
  · have hn : bitsBackS.run z = none := if_neg hw
    rw [hn] at h
    cases h

def bitsNoneG : Ctx := ⟨[(22, .sl 5 (.int .u8))], [(12, awake2S), (17, newS), (19, glongS), (20, getS), (21, badS), (22, finS), (1000019, glongNilS), (1000020, getNilS), (1000021, badNilS), (1000022, finNilS)], [], 52, [8], []⟩
def bitsNoneA : Ann := ⟨[], [], []⟩
theorem bitsNoneE (fuel : Nat) (n : Int) : fnRun bitsNoneG bitsNoneA fuel Try.f6 [.val (.int .i64)] [.val (.bool)] (n, ()) = bitsNoneN n := by kernel_rfl
theorem bitsNoneC (hl : ∀ z, WfAll Try.prog bitsNoneT z → bitsNoneN z.1 = some (true, ())) : FOk Try.prog 6 bitsNoneS := fok (G := bitsNoneG) (fn := Try.f6) (A := bitsNoneA) (ctxOk (by kernel_rfl) (by kernel_rfl) ⟨awake2O, newO, glongO, getO, badO, finO, glongNilO, getNilO, badNilO, finNilO, trivial⟩) Try.func6 (by kernel_rfl) (by kernel_rfl) fun z r h => by
  by_cases hw : WfAll Try.prog bitsNoneT z
  · refine ⟨0, (bitsNoneE 0 z.1).trans ((hl z hw).trans ?_)⟩
    rw [← h]
    exact (if_pos hw).symm
  · have hn : bitsNoneS.run z = none := if_neg hw
    rw [hn] at h
    cases h

def bitsShortG : Ctx := ⟨[(3, .int .i64), (4, .bool), (5, .int .u8), (9, .str), (22, .sl 5 (.int .u8)), (40, .int .u32)], [(12, awake2S), (13, putS)], [], 57, [], []⟩
def bitsShortA : Ann := ⟨[(3, (3, [.val 7 (.int .i64) false, .val 8 (.int .i64) false])), (9, (4, [.val 9 (.int .i64) false]))], [], []⟩
theorem bitsShortE (fuel : Nat) (a : Int) (b : Int) : fnRun bitsShortG bitsShortA fuel Try.f7 [.val (.int .u32), .val (.int .u32)] [.val (.bool)] (a, b, ()) = bitsShortN fuel a b := by kernel_rfl
theorem bitsShortC (hl : ∀ z, WfAll Try.prog bitsShortT z → ∃ k, bitsShortN k z.1 z.2.1 = some (true, ())) : FOk Try.prog 7 bitsShortS := fok (G := bitsShortG) (fn := Try.f7) (A := bitsShortA) (ctxOk (by kernel_rfl) (by kernel_rfl) ⟨awake2O, putO, trivial⟩) Try.func7 (by kernel_rfl) (by kernel_rfl) fun z r h => by
  by_cases hw : WfAll Try.prog bitsShortT z
  · obtain ⟨k, hk⟩ := hl z hw
    refine ⟨k, (bitsShortE k z.1 z.2.1).trans (hk.trans ?_)⟩
    rw [← h]
    exact (if_pos hw).symm
  · have hn : bitsShortS.run z = none := if_neg hw
    rw [hn] at h
    cases h

def iargsG : Ctx := ⟨[], [], [], 26, [], []⟩
def iargsA : Ann := ⟨[], [(2, (11, [.val 4 (.bool) false]))], []⟩
theorem iargsE (fuel : Nat) (o : Int) : fnRun iargsG iargsA fuel Try.f24 [.val (.int .i64)] [.val (.int .i64)] (o, ()) = iargsN o := by kernel_rfl
theorem iargsO : FOk Try.prog 24 iargsS := fok (G := iargsG) (fn := Try.f24) (A := iargsA) (ctxOk (by kernel_rfl) (by kernel_rfl) trivial) Try.func24 (by kernel_rfl) (by kernel_rfl) fun z r h => ⟨0, (iargsE 0 z.1).trans ((iargs_eq _).trans h)⟩

def withinG : Ctx := ⟨[], [], [], 18, [], []⟩
def withinA : Ann := ⟨[], [], []⟩
theorem withinE (fuel : Nat) (n : Int) (c : Int) (a : Int) : fnRun withinG withinA fuel Try.f32 [.val (.int .i64), .val (.int .i64), .val (.int .i64)] [.val (.bool)] (n, c, a, ()) = withinN n c a := by kernel_rfl
theorem withinO : FOk Try.prog 32 withinS := fok (G := withinG) (fn := Try.f32) (A := withinA) (ctxOk (by kernel_rfl) (by kernel_rfl) trivial) Try.func32 (by kernel_rfl) (by kernel_rfl) fun z r h => ⟨0, (withinE 0 z.1 z.2.1 z.2.2.1).trans ((within_eq _ _ _).trans h)⟩

def igoodG : Ctx := ⟨[(3, .int .i64), (45, .pair (.int .i64) (.pair (.int .i64) (.pair (.int .i64) (.unit))))], [(24, iargsS), (32, withinS)], [], 21, [1], []⟩
def igoodA : Ann := ⟨[], [], []⟩
theorem igoodE (fuel : Nat) (i : Int × Int × Int × Unit) : fnRun igoodG igoodA fuel Try.f26 [.val (.pair (.int .i64) (.pair (.int .i64) (.pair (.int .i64) (.unit))))] [.val (.bool)] (i, ()) = igoodN i := by kernel_rfl
theorem igoodO : FOk Try.prog 26 igoodS := fok (G := igoodG) (fn := Try.f26) (A := igoodA) (ctxOk (by kernel_rfl) (by kernel_rfl) ⟨iargsO, withinO, trivial⟩) Try.func26 (by kernel_rfl) (by kernel_rfl) fun z r h => ⟨0, (igoodE 0 z.1).trans ((igood_eq _).trans h)⟩

def iputG : Ctx := ⟨[(3, .int .i64), (22, .sl 5 (.int .u8)), (45, .pair (.int .i64) (.pair (.int .i64) (.pair (.int .i64) (.unit)))), (59, .sl 3 (.int .i64))], [(13, putS), (24, iargsS)], [7, 26, 30], 31, [3], []⟩
def iputA : Ann := ⟨[(3, (4, [.val 0 (.sl 5 (.int .u8)) true, .val 22 (.int .i64) false]))], [], [(2, [[], [], [0, 1], [0, 1], [], [0, 1, 2, 3, 4], [0, 1, 2, 3, 4], [0, 1, 2, 3, 4], [0, 1, 2, 3, 4], [], [], [0, 1, 2, 3, 4, 5, 6, 7, 8, 9, 10]])]⟩
theorem iputE (fuel : Nat) (b : List Int) (i : Int × Int × Int × Unit) : fnRun iputG iputA fuel Try.f28 [.tip (.sl 5 (.int .u8)), .val (.pair (.int .i64) (.pair (.int .i64) (.pair (.int .i64) (.unit))))] [.tip (.sl 5 (.int .u8))] (b, i, ()) = iputN fuel b i := by kernel_rfl
theorem iputO : FOk Try.prog 28 iputS := fok (G := iputG) (fn := Try.f28) (A := iputA) (ctxOk (by kernel_rfl) (by kernel_rfl) ⟨putO, iargsO, trivial⟩) Try.func28 (by kernel_rfl) (by kernel_rfl) fun z r h => (iput_ok _ _ r h).elim fun k hk => ⟨k, (iputE k z.1 z.2.1).trans hk⟩

def igetG : Ctx := ⟨[(3, .int .i64), (45, .pair (.int .i64) (.pair (.int .i64) (.pair (.int .i64) (.unit))))], [(20, getS), (24, iargsS)], [], 22, [1000000, 2, 3], []⟩
def igetA : Ann := ⟨[], [], []⟩
theorem igetE (fuel : Nat) (r : List Int × Bool × Unit) : fnRun igetG igetA fuel Try.f29 [.box 56 (.pair (.sl 5 (.int .u8)) (.pair (.bool) (.unit)))] [.val (.pair (.int .i64) (.pair (.int .i64) (.pair (.int .i64) (.unit))))] (r, ()) = igetN r := by kernel_rfl
theorem igetO : FOk Try.prog 29 igetS := fok (G := igetG) (fn := Try.f29) (A := igetA) (ctxOk (by kernel_rfl) (by kernel_rfl) ⟨getO, iargsO, trivial⟩) Try.func29 (by kernel_rfl) (by kernel_rfl) fun z r h => ⟨0, (igetE 0 z.1).trans h⟩

def rinstrG : Ctx := ⟨[(3, .int .i64), (45, .pair (.int .i64) (.pair (.int .i64) (.pair (.int .i64) (.unit))))], [(25, rargsS)], [], 45, [1], []⟩
def rinstrA : Ann := ⟨[], [(2, (2, []))], []⟩
theorem rinstrE (fuel : Nat) (i : Int × Int × Int × Unit) : fnRun rinstrG rinstrA fuel Try.f27 [.val (.pair (.int .i64) (.pair (.int .i64) (.pair (.int .i64) (.unit))))] [.val (.bool)] (i, ()) = rinstrN i := by kernel_rfl
theorem rinstrO : FOk Try.prog 27 rinstrS := fok (G := rinstrG) (fn := Try.f27) (A := rinstrA) (ctxOk (by kernel_rfl) (by kernel_rfl) ⟨rargsO, trivial⟩) Try.func27 (by kernel_rfl) (by kernel_rfl) fun z r h => ⟨0, (rinstrE 0 z.1).trans ((rinstr_eq _).trans h)⟩

def awake4G : Ctx := ⟨[(22, .sl 5 (.int .u8)), (45, .pair (.int .i64) (.pair (.int .i64) (.pair (.int .i64) (.unit))))], [(17, newS), (24, iargsS), (26, igoodS), (27, rinstrS), (28, iputS), (29, igetS)], [], 32, [1, 23], []⟩
def awake4A : Ann := ⟨[], [], [(3, [[], [], [], [], [], [], [], [], [], [], [], [], [], [], [], [], [], [], [], [16, 17, 18], [], [], [], [], [], [], []])]⟩
theorem awake4E (fuel : Nat) : fnRun awake4G awake4A fuel Try.f23 [] [.val (.bool)] () = awake4N := by kernel_rfl
theorem awake4O : FOk Try.prog 23 awake4S := fok (G := awake4G) (fn := Try.f23) (A := awake4A) (ctxOk (by kernel_rfl) (by kernel_rfl) ⟨newO, iargsO, igoodO, rinstrO, iputO, igetO, trivial⟩) Try.func23 (by kernel_rfl) (by kernel_rfl) fun z r h => ⟨0, (awake4E 0).trans h⟩

def instKindsG : Ctx := ⟨[(3, .int .i64), (4, .bool), (45, .pair (.int .i64) (.pair (.int .i64) (.pair (.int .i64) (.unit))))], [(23, awake4S), (24, iargsS), (25, rargsS), (26, igoodS), (27, rinstrS)], [], 20, [1], []⟩
def instKindsA : Ann := ⟨[], [], [(1, [[], [], [], [], [], [2, 3, 4], [2, 3, 4], [], [], [], [], [], [], [11, 12], [], [], [], []])]⟩
theorem instKindsE (fuel : Nat) (i : Int × Int × Int × Unit) : fnRun instKindsG instKindsA fuel Try.f8 [.val (.pair (.int .i64) (.pair (.int .i64) (.pair (.int .i64) (.unit))))] [.val (.bool)] (i, ()) = instKindsN i := by kernel_rfl
theorem instKindsC (hl : ∀ z, WfAll Try.prog instKindsT z → instKindsN z.1 = some (true, ())) : FOk Try.prog 8 instKindsS := fok (G := instKindsG) (fn := Try.f8) (A := instKindsA) (ctxOk (by kernel_rfl) (by kernel_rfl) ⟨awake4O, iargsO, rargsO, igoodO, rinstrO, trivial⟩) Try.func8 (by kernel_rfl) (by kernel_rfl) fun z r h => by
  by_cases hw : WfAll Try.prog instKindsT z
  · refine ⟨0, (instKindsE 0 z.1).trans ((hl z hw).trans ?_)⟩
    rw [← h]
    exact (if_pos hw).symm
  · have hn : instKindsS.run z = none := if_neg hw
    rw [hn] at h
    cases h

def instPutsG : Ctx := ⟨[(3, .int .i64), (9, .str), (22, .sl 5 (.int .u8)), (45, .pair (.int .i64) (.pair (.int .i64) (.pair (.int .i64) (.unit))))], [(15, rbytesS), (17, newS), (22, finS), (23, awake4S), (25, rargsS), (27, rinstrS), (28, iputS), (29, igetS)], [38, 47], 89, [3, 77], []⟩
def instPutsA : Ann := ⟨[], [(4, (2, [.val 5 (.sl 5 (.int .u8)) true])), (6, (2, [.val 5 (.sl 5 (.int .u8)) true]))], [(3, [[], [0], [], [0, 1, 2], [0, 1, 2], [], [], []]), (8, [[], [0], [], [0, 1, 2], [], []]), (14, [[], [], [], [], [2, 3], [], [], [], [], [], [], []])]⟩
theorem instPutsE (fuel : Nat) (b : List Int) (i : Int × Int × Int × Unit) : fnRun instPutsG instPutsA fuel Try.f9 [.val (.sl 5 (.int .u8)), .val (.pair (.int .i64) (.pair (.int .i64) (.pair (.int .i64) (.unit))))] [.val (.bool)] (b, i, ()) = instPutsN b i := by kernel_rfl
theorem instPutsC (hl : ∀ z, WfAll Try.prog instPutsT z → instPutsN z.1 z.2.1 = some (true, ())) : FOk Try.prog 9 instPutsS := fok (G := instPutsG) (fn := Try.f9) (A := instPutsA) (ctxOk (by kernel_rfl) (by kernel_rfl) ⟨rbytesO, newO, finO, awake4O, rargsO, rinstrO, iputO, igetO, trivial⟩) Try.func9 (by kernel_rfl) (by kernel_rfl) fun z r h => by
  by_cases hw : WfAll Try.prog instPutsT z
  · refine ⟨0, (instPutsE 0 z.1 z.2.1).trans ((hl z hw).trans ?_)⟩
    rw [← h]
    exact (if_pos hw).symm
  · have hn : instPutsS.run z = none := if_neg hw
    rw [hn] at h
    cases h

def instGetsG : Ctx := ⟨[(3, .int .i64), (4, .bool), (9, .str), (22, .sl 5 (.int .u8)), (45, .pair (.int .i64) (.pair (.int .i64) (.pair (.int .i64) (.unit))))], [(17, newS), (21, badS), (22, finS), (23, awake4S), (26, igoodS), (28, iputS), (29, igetS)], [], 57, [12, 4], []⟩
def instGetsA : Ann := ⟨[], [(1, (2, [.val 0 (.sl 5 (.int .u8)) false]))], [(8, [[], [], [], [], [2, 3], [2, 3], [], [], [], [], [9], [9], [], [], [9, 10, 11, 12, 13], [9, 10, 11, 12, 13], [], [], [], [], [], [19, 20], [19, 20], [19, 20, 21, 22], [19, 20, 21, 22], [19, 20], [], [], [], [], [], [], [], [], [], [], [], []])]⟩
theorem instGetsE (fuel : Nat) (b : List Int) : fnRun instGetsG instGetsA fuel Try.f11 [.val (.sl 5 (.int .u8))] [.val (.bool)] (b, ()) = instGetsN b := by kernel_rfl
theorem instGetsC (hl : ∀ z, WfAll Try.prog instGetsT z → instGetsN z.1 = some (true, ())) : FOk Try.prog 11 instGetsS := fok (G := instGetsG) (fn := Try.f11) (A := instGetsA) (ctxOk (by kernel_rfl) (by kernel_rfl) ⟨newO, badO, finO, awake4O, igoodO, iputO, igetO, trivial⟩) Try.func11 (by kernel_rfl) (by kernel_rfl) fun z r h => by
  by_cases hw : WfAll Try.prog instGetsT z
  · refine ⟨0, (instGetsE 0 z.1).trans ((hl z hw).trans ?_)⟩
    rw [← h]
    exact (if_pos hw).symm
  · have hn : instGetsS.run z = none := if_neg hw
    rw [hn] at h
    cases h

def instRowG : Ctx := ⟨[(22, .sl 5 (.int .u8)), (45, .pair (.int .i64) (.pair (.int .i64) (.pair (.int .i64) (.unit)))), (50, .sl 45 (.pair (.int .i64) (.pair (.int .i64) (.pair (.int .i64) (.unit)))))], [(17, newS), (22, finS), (23, awake4S), (26, igoodS), (28, iputS), (29, igetS)], [24], 76, [33], []⟩
def instRowA : Ann := ⟨[(4, (5, [.val 3 (.sl 5 (.int .u8)) true, .val 4 (.int .i64) false, .val 5 (.int .i64) false])), (11, (4, [.val 7 (.int .i64) false, .box 33 56 [(.sl 5 (.int .u8), false), (.bool, false)]]))], [(3, (6, [.val 3 (.sl 5 (.int .u8)) true, .val 4 (.int .i64) false])), (10, (5, [.box 33 56 [(.sl 5 (.int .u8), false), (.bool, false)]]))], [(13, [[], [0], [], [], [], [], [], [], [6, 7], [6, 7, 8], [6, 7], [6, 7], [], []])]⟩
theorem instRowE (fuel : Nat) (l : List (Int × Int × Int × Unit)) : fnRun instRowG instRowA fuel Try.f10 [.val (.sl 45 (.pair (.int .i64) (.pair (.int .i64) (.pair (.int .i64) (.unit)))))] [.val (.bool)] (l, ()) = instRowN fuel l := by kernel_rfl
theorem instRowC (hl : ∀ z, WfAll Try.prog instRowT z → ∃ k, instRowN k z.1 = some (true, ())) : FOk Try.prog 10 instRowS := fok (G := instRowG) (fn := Try.f10) (A := instRowA) (ctxOk (by kernel_rfl) (by kernel_rfl) ⟨newO, finO, awake4O, igoodO, iputO, igetO, trivial⟩) Try.func10 (by kernel_rfl) (by kernel_rfl) fun z r h => by
  by_cases hw : WfAll Try.prog instRowT z
  · obtain ⟨k, hk⟩ := hl z hw
    refine ⟨k, (instRowE k z.1).trans (hk.trans ?_)⟩
    rw [← h]
    exact (if_pos hw).symm
  · have hn : instRowS.run z = none := if_neg hw
    rw [hn] at h
    cases h

end Go.Pli
