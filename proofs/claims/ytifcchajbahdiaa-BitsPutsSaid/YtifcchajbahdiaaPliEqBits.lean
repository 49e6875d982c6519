import Derived.Test.YtifcchajbahdiaaPliBitsC
import Derived.Test.YtifcchajbahdiaaPMKit
import Derived.Test.YtifcchajbahdiaaProg
import Derived.KernelRfl
namespace Go.Pli
open Go Go.PM

open Go.Proofs
def putS : FSpec := ⟨[.tip (.sl 5 (.int .u8)), .val (.int .i64)], [.tip (.sl 5 (.int .u8))], fun z => put z.1 z.2.1⟩
def longS : FSpec := ⟨[.tip (.sl 5 (.int .u8)), .val (.int .i32)], [.tip (.sl 5 (.int .u8))], fun z => longN z.1 z.2.1⟩
def newS : FSpec := ⟨[.val (.sl 5 (.int .u8))], [.box 56 (.pair (.sl 5 (.int .u8)) (.pair (.bool) (.unit)))], fun z => some (newN z.1, ())⟩
def nextS : FSpec := ⟨[.box 56 (.pair (.sl 5 (.int .u8)) (.pair (.bool) (.unit)))], [.val (.int .u64), .val (.bool)], fun z => next z.1⟩
def getS : FSpec := ⟨[.box 56 (.pair (.sl 5 (.int .u8)) (.pair (.bool) (.unit))), .val (.int .i64)], [.val (.int .i64)], fun z => getN z.1 z.2.1⟩
def glongS : FSpec := ⟨[.box 56 (.pair (.sl 5 (.int .u8)) (.pair (.bool) (.unit)))], [.val (.int .i32)], fun z => glongN z.1⟩
def badS : FSpec := ⟨[.box 56 (.pair (.sl 5 (.int .u8)) (.pair (.bool) (.unit)))], [.val (.bool)], fun z => some (badN z.1)⟩
def finS : FSpec := ⟨[.box 56 (.pair (.sl 5 (.int .u8)) (.pair (.bool) (.unit)))], [.val (.bool)], fun z => finN z.1⟩
def rbytesS : FSpec := ⟨[.val (.int .i64)], [.tip (.sl 5 (.int .u8))], fun z => rbytes z.1⟩
def rsignedS : FSpec := ⟨[.val (.int .i32)], [.tip (.sl 5 (.int .u8))], fun z => rsignedN z.1⟩
def rnextS : FSpec := ⟨[.val (.sl 5 (.int .u8))], [.val (.int .i64), .val (.int .i64)], fun z => rnext z.1⟩
def rinS : FSpec := ⟨[.val (.sl 3 (.int .i64)), .val (.int .i64)], [.val (.bool)], fun z => rin z.1 z.2.1⟩
def rargsS : FSpec := ⟨[.val (.int .i64)], [.val (.int .i64)], fun z => rargsN z.1⟩
def awake2S : FSpec := ⟨[], [.val (.bool)], fun _ => awake2N⟩
def bitsPutsS : FSpec := ⟨[.val (.sl 5 (.int .u8)), .val (.int .i64), .val (.int .i32)], [.val (.bool)], fun z => bitsPutsN z.1 z.2.1 z.2.2.1⟩

def putG : Ctx := ⟨[(3, .int .i64), (5, .int .u8), (22, .sl 5 (.int .u8)), (53, .int .u64)], [], [11, 20], 25, [], []⟩
def putA : Ann := ⟨[(2, (3, [.val 0 (.sl 5 (.int .u8)) true, .val 5 (.int .u64) false]))], [], []⟩
theorem putE (fuel : Nat) (b : List Int) (n : Int) : fnRun putG putA fuel Try.f13 [.tip (.sl 5 (.int .u8)), .val (.int .i64)] [.tip (.sl 5 (.int .u8))] (b, n, ()) = putN fuel b n := by kernel_rfl
theorem putO : FOk Try.prog 13 putS := fok (G := putG) (fn := Try.f13) (A := putA) (ctxOk (by kernel_rfl) (by kernel_rfl) trivial) Try.func13 (by kernel_rfl) (by kernel_rfl) fun z r h => (put_ok _ _ r h).elim fun k hk => ⟨k, (putE k z.1 z.2.1).trans hk⟩

def longG : Ctx := ⟨[(3, .int .i64), (21, .int .i32), (22, .sl 5 (.int .u8)), (40, .int .u32)], [(13, putS)], [5], 15, [], []⟩
def longA : Ann := ⟨[], [], []⟩
theorem longE (fuel : Nat) (b : List Int) (n : Int) : fnRun longG longA fuel Try.f14 [.tip (.sl 5 (.int .u8)), .val (.int .i32)] [.tip (.sl 5 (.int .u8))] (b, n, ()) = longN b n := by kernel_rfl
theorem longO : FOk Try.prog 14 longS := fok (G := longG) (fn := Try.f14) (A := longA) (ctxOk (by kernel_rfl) (by kernel_rfl) ⟨putO, trivial⟩) Try.func14 (by kernel_rfl) (by kernel_rfl) fun z r h => ⟨0, (longE 0 z.1 z.2.1).trans h⟩

def newG : Ctx := ⟨[(56, .pair (.sl 5 (.int .u8)) (.pair (.bool) (.unit)))], [], [], 6, [5], []⟩
def newA : Ann := ⟨[], [], []⟩
theorem newE (fuel : Nat) (b : List Int) : fnRun newG newA fuel Try.f17 [.val (.sl 5 (.int .u8))] [.box 56 (.pair (.sl 5 (.int .u8)) (.pair (.bool) (.unit)))] (b, ()) = some (newN b, ()) := by kernel_rfl
theorem newO : FOk Try.prog 17 newS := fok (G := newG) (fn := Try.f17) (A := newA) (ctxOk (by kernel_rfl) (by kernel_rfl) trivial) Try.func17 (by kernel_rfl) (by kernel_rfl) fun z r h => ⟨0, (newE 0 z.1).trans h⟩

def nextG : Ctx := ⟨[(5, .int .u8), (22, .sl 5 (.int .u8)), (53, .int .u64), (56, .pair (.sl 5 (.int .u8)) (.pair (.bool) (.unit)))], [], [], 47, [1000000], []⟩
def nextA : Ann := ⟨[(3, (8, [.val 4 (.int .u64) false, .val 12 (.int .i64) false]))], [], []⟩
theorem nextE (fuel : Nat) (r : List Int × Bool × Unit) : fnRun nextG nextA fuel Try.f30 [.box 56 (.pair (.sl 5 (.int .u8)) (.pair (.bool) (.unit)))] [.val (.int .u64), .val (.bool)] (r, ()) = nextN fuel r := by kernel_rfl
theorem nextO : FOk Try.prog 30 nextS := fok (G := nextG) (fn := Try.f30) (A := nextA) (ctxOk (by kernel_rfl) (by kernel_rfl) trivial) Try.func30 (by kernel_rfl) (by kernel_rfl) fun z r h => (next_ok _ r h).elim fun k hk => ⟨k, (nextE k z.1).trans hk⟩

def getG : Ctx := ⟨[(3, .int .i64), (4, .bool), (53, .int .u64), (56, .pair (.sl 5 (.int .u8)) (.pair (.bool) (.unit)))], [(30, nextS)], [], 37, [1000000], [30]⟩
def getA : Ann := ⟨[], [], []⟩
theorem getE (fuel : Nat) (r : List Int × Bool × Unit) (n : Int) : fnRun getG getA fuel Try.f20 [.box 56 (.pair (.sl 5 (.int .u8)) (.pair (.bool) (.unit))), .val (.int .i64)] [.val (.int .i64)] (r, n, ()) = getN r n := by kernel_rfl
theorem getO : FOk Try.prog 20 getS := fok (G := getG) (fn := Try.f20) (A := getA) (ctxOk (by kernel_rfl) (by kernel_rfl) ⟨nextO, trivial⟩) Try.func20 (by kernel_rfl) (by kernel_rfl) fun z r h => ⟨0, (getE 0 z.1 z.2.1).trans h⟩

def glongG : Ctx := ⟨[(3, .int .i64), (21, .int .i32), (40, .int .u32)], [(20, getS)], [], 15, [1000000], []⟩
def glongA : Ann := ⟨[], [], []⟩
theorem glongE (fuel : Nat) (r : List Int × Bool × Unit) : fnRun glongG glongA fuel Try.f19 [.box 56 (.pair (.sl 5 (.int .u8)) (.pair (.bool) (.unit)))] [.val (.int .i32)] (r, ()) = glongN r := by kernel_rfl
theorem glongO : FOk Try.prog 19 glongS := fok (G := glongG) (fn := Try.f19) (A := glongA) (ctxOk (by kernel_rfl) (by kernel_rfl) ⟨getO, trivial⟩) Try.func19 (by kernel_rfl) (by kernel_rfl) fun z r h => ⟨0, (glongE 0 z.1).trans h⟩

def badG : Ctx := ⟨[(4, .bool), (56, .pair (.sl 5 (.int .u8)) (.pair (.bool) (.unit)))], [], [], 11, [1000000], [30]⟩
def badA : Ann := ⟨[], [], []⟩
theorem badE (fuel : Nat) (r : List Int × Bool × Unit) : fnRun badG badA fuel Try.f21 [.box 56 (.pair (.sl 5 (.int .u8)) (.pair (.bool) (.unit)))] [.val (.bool)] (r, ()) = some (badN r) := by kernel_rfl
theorem badO : FOk Try.prog 21 badS := fok (G := badG) (fn := Try.f21) (A := badA) (ctxOk (by kernel_rfl) (by kernel_rfl) trivial) Try.func21 (by kernel_rfl) (by kernel_rfl) fun z r h => ⟨0, (badE 0 z.1).trans h⟩

def finG : Ctx := ⟨[(4, .bool), (22, .sl 5 (.int .u8)), (56, .pair (.sl 5 (.int .u8)) (.pair (.bool) (.unit)))], [], [], 20, [1000000], [30]⟩
def finA : Ann := ⟨[], [], []⟩
theorem finE (fuel : Nat) (r : List Int × Bool × Unit) : fnRun finG finA fuel Try.f22 [.box 56 (.pair (.sl 5 (.int .u8)) (.pair (.bool) (.unit)))] [.val (.bool)] (r, ()) = finN r := by kernel_rfl
theorem finO : FOk Try.prog 22 finS := fok (G := finG) (fn := Try.f22) (A := finA) (ctxOk (by kernel_rfl) (by kernel_rfl) trivial) Try.func22 (by kernel_rfl) (by kernel_rfl) fun z r h => ⟨0, (finE 0 z.1).trans h⟩

def rbytesG : Ctx := ⟨[(3, .int .i64), (5, .int .u8), (22, .sl 5 (.int .u8))], [], [9, 18], 23, [], []⟩
def rbytesA : Ann := ⟨[(4, (3, [.val 0 (.int .i64) false, .val 3 (.sl 5 (.int .u8)) true]))], [(1, (2, [.val 0 (.int .i64) false]))], []⟩
theorem rbytesE (fuel : Nat) (n : Int) : fnRun rbytesG rbytesA fuel Try.f15 [.val (.int .i64)] [.tip (.sl 5 (.int .u8))] (n, ()) = rbytesN fuel n := by kernel_rfl
theorem rbytesO : FOk Try.prog 15 rbytesS := fok (G := rbytesG) (fn := Try.f15) (A := rbytesA) (ctxOk (by kernel_rfl) (by kernel_rfl) trivial) Try.func15 (by kernel_rfl) (by kernel_rfl) fun z r h => (rbytes_ok _ r h).elim fun k hk => ⟨k, (rbytesE k z.1).trans hk⟩

def rsignedG : Ctx := ⟨[(3, .int .i64), (21, .int .i32), (22, .sl 5 (.int .u8))], [(15, rbytesS)], [], 14, [], []⟩
def rsignedA : Ann := ⟨[], [], []⟩
theorem rsignedE (fuel : Nat) (n : Int) : fnRun rsignedG rsignedA fuel Try.f16 [.val (.int .i32)] [.tip (.sl 5 (.int .u8))] (n, ()) = rsignedN n := by kernel_rfl
theorem rsignedO : FOk Try.prog 16 rsignedS := fok (G := rsignedG) (fn := Try.f16) (A := rsignedA) (ctxOk (by kernel_rfl) (by kernel_rfl) ⟨rbytesO, trivial⟩) Try.func16 (by kernel_rfl) (by kernel_rfl) fun z r h => ⟨0, (rsignedE 0 z.1).trans h⟩

def rnextG : Ctx := ⟨[(3, .int .i64), (5, .int .u8), (22, .sl 5 (.int .u8))], [], [], 46, [], []⟩
def rnextA : Ann := ⟨[(3, (8, [.val 4 (.int .i64) false, .val 5 (.int .i64) false, .val 6 (.int .i64) false]))], [], []⟩
theorem rnextE (fuel : Nat) (b : List Int) : fnRun rnextG rnextA fuel Try.f18 [.val (.sl 5 (.int .u8))] [.val (.int .i64), .val (.int .i64)] (b, ()) = rnextN fuel b := by kernel_rfl
theorem rnextO : FOk Try.prog 18 rnextS := fok (G := rnextG) (fn := Try.f18) (A := rnextA) (ctxOk (by kernel_rfl) (by kernel_rfl) trivial) Try.func18 (by kernel_rfl) (by kernel_rfl) fun z r h => (rnext_ok _ r h).elim fun k hk => ⟨k, (rnextE k z.1).trans hk⟩

def rinG : Ctx := ⟨[(3, .int .i64), (59, .sl 3 (.int .i64))], [], [], 18, [], []⟩
def rinA : Ann := ⟨[(2, (4, [.val 5 (.int .i64) false]))], [], []⟩
theorem rinE (fuel : Nat) (l : List Int) (x : Int) : fnRun rinG rinA fuel Try.f31 [.val (.sl 3 (.int .i64)), .val (.int .i64)] [.val (.bool)] (l, x, ()) = rinN fuel l x := by kernel_rfl
theorem rinO : FOk Try.prog 31 rinS := fok (G := rinG) (fn := Try.f31) (A := rinA) (ctxOk (by kernel_rfl) (by kernel_rfl) trivial) Try.func31 (by kernel_rfl) (by kernel_rfl) fun z r h => (rin_ok _ _ r h).elim fun k hk => ⟨k, (rinE k z.1 z.2.1).trans hk⟩

def rargsG : Ctx := ⟨[(59, .sl 3 (.int .i64))], [(31, rinS)], [], 24, [], []⟩
def rargsA : Ann := ⟨[], [], []⟩
theorem rargsE (fuel : Nat) (o : Int) : fnRun rargsG rargsA fuel Try.f25 [.val (.int .i64)] [.val (.int .i64)] (o, ()) = rargsN o := by kernel_rfl
theorem rargsO : FOk Try.prog 25 rargsS := fok (G := rargsG) (fn := Try.f25) (A := rargsA) (ctxOk (by kernel_rfl) (by kernel_rfl) ⟨rinO, trivial⟩) Try.func25 (by kernel_rfl) (by kernel_rfl) fun z r h => ⟨0, (rargsE 0 z.1).trans h⟩

def awake2G : Ctx := ⟨[(5, .int .u8), (22, .sl 5 (.int .u8))], [(13, putS), (14, longS), (17, newS), (19, glongS), (20, getS), (21, badS), (22, finS), (25, rargsS)], [], 51, [6], []⟩
def awake2A : Ann := ⟨[], [], []⟩
theorem awake2E (fuel : Nat) : fnRun awake2G awake2A fuel Try.f12 [] [.val (.bool)] () = awake2N := by kernel_rfl
theorem awake2O : FOk Try.prog 12 awake2S := fok (G := awake2G) (fn := Try.f12) (A := awake2A) (ctxOk (by kernel_rfl) (by kernel_rfl) ⟨putO, longO, newO, glongO, getO, badO, finO, rargsO, trivial⟩) Try.func12 (by kernel_rfl) (by kernel_rfl) fun z r h => ⟨0, (awake2E 0).trans h⟩

def bitsPutsG : Ctx := ⟨[(9, .str), (22, .sl 5 (.int .u8))], [(12, awake2S), (13, putS), (14, longS), (15, rbytesS), (16, rsignedS)], [], 50, [], []⟩
def bitsPutsA : Ann := ⟨[], [], [(4, [[], [], [], [], [2, 3], [2, 3], [2, 3, 4, 5], [2, 3, 4, 5], [2, 3, 4, 5], [2, 3], [], [], [], [], [], [13, 14], [13, 14], [13, 14, 15, 16], [13, 14, 15, 16], [13, 14, 15, 16], [13, 14], [], [], []])]⟩
theorem bitsPutsE (fuel : Nat) (b : List Int) (n : Int) (m : Int) : fnRun bitsPutsG bitsPutsA fuel Try.f3 [.val (.sl 5 (.int .u8)), .val (.int .i64), .val (.int .i32)] [.val (.bool)] (b, n, m, ()) = bitsPutsN b n m := by kernel_rfl
theorem bitsPutsO : FOk Try.prog 3 bitsPutsS := fok (G := bitsPutsG) (fn := Try.f3) (A := bitsPutsA) (ctxOk (by kernel_rfl) (by kernel_rfl) ⟨awake2O, putO, longO, rbytesO, rsignedO, trivial⟩) Try.func3 (by kernel_rfl) (by kernel_rfl) fun z r h => ⟨0, (bitsPutsE 0 z.1 z.2.1 z.2.2.1).trans h⟩

end Go.Pli
