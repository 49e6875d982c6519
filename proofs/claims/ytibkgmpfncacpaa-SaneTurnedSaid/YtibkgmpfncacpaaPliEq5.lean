import Derived.Test.YtibkgmpfncacpaaPliL5E
import Derived.Test.YtibkgmpfncacpaaPMKit
import Derived.Test.YtibkgmpfncacpaaPMSaid
import Derived.Test.YtibkgmpfncacpaaProg
import Derived.KernelRfl
namespace Go.Pli
open Go Go.PM
open Go.Proofs
abbrev tySu8 : Ty := .sl 5 (.int .u8)
abbrev tySi64 : Ty := .sl 3 (.int .i64)
abbrev tyTTp : Ty := .pair (.int .i64) (.pair (.int .i64) .unit)
abbrev tyTIns : Ty := .pair (.int .i64) tyTTp
abbrev tyStyTTp : Ty := .sl 35 tyTTp
abbrev tyTCl : Ty := .pair (.int .i64) (.pair tyStyTTp (.pair tySi64 .unit))
abbrev tyStyTCl : Ty := .sl 44 tyTCl
abbrev tyStyTIns : Ty := .sl 41 tyTIns
abbrev tyTMt : Ty := .pair tyStyTTp (.pair tyStyTTp (.pair tyTTp (.pair tyStyTIns (.pair (.int .i64) (.pair (.int .i64) (.pair tySi64 .unit))))))
abbrev tyStyTMt : Ty := .sl 38 tyTMt
abbrev tySi32 : Ty := .sl 21 (.int .i32)
abbrev tyTIm : Ty := .pair tyStyTCl (.pair tyStyTTp (.pair tySi32 (.pair tyStyTMt (.pair tySi64 tyTTp))))
abbrev tyStyStyTTp : Ty := .sl 23 tyStyTTp
def rinS : FSpec := ⟨[.val (tySi64), .val ((.int .i64))], [.val (.bool)], fun z => rin z.1 z.2.1⟩
def rargsS : FSpec := ⟨[.val ((.int .i64))], [.val ((.int .i64))], fun z => some (rargs z.1, ())⟩
def iargsS : FSpec := ⟨[.val ((.int .i64))], [.val ((.int .i64))], fun z => some (iargs z.1, ())⟩
def withinS : FSpec := ⟨[.val ((.int .i64)), .val ((.int .i64)), .val ((.int .i64))], [.val (.bool)], fun z => some (within z.1 z.2.1 z.2.2.1, ())⟩
def igoodS : FSpec := ⟨[.val (tyTIns)], [.val (.bool)], fun z => some (igood z.1, ())⟩
def rinstrS : FSpec := ⟨[.val (tyTIns)], [.val (.bool)], fun z => some (rinstr z.1, ())⟩
def indexClassS : FSpec := ⟨[.val (tyStyTCl), .val ((.clo 45 .unit))], [.val ((.int .i64))], fun z => some (indexClass z.1 z.2.1, ())⟩
def containsClassS : FSpec := ⟨[.val (tyStyTCl), .val ((.clo 45 .unit))], [.val (.bool)], fun z => some (containsClass z.1 z.2.1, ())⟩
def indexMethodS : FSpec := ⟨[.val (tyStyTMt), .val ((.clo 48 .unit))], [.val ((.int .i64))], fun z => some (indexMethod z.1 z.2.1, ())⟩
def containsMethodS : FSpec := ⟨[.val (tyStyTMt), .val ((.clo 48 .unit))], [.val (.bool)], fun z => some (containsMethod z.1 z.2.1, ())⟩
def indexTypesS : FSpec := ⟨[.val (tyStyTTp), .val ((.clo 96 .unit))], [.val ((.int .i64))], fun z => some (indexTypes z.1 z.2.1, ())⟩
def containsTypesS : FSpec := ⟨[.val (tyStyTTp), .val ((.clo 96 .unit))], [.val (.bool)], fun z => some (containsTypes z.1 z.2.1, ())⟩
def indexEntryS : FSpec := ⟨[.val (tyStyTTp), .val ((.clo 89 (.pair (.clo 87 .unit) .unit)))], [.val ((.int .i64))], fun z => some (indexEntry z.1 z.2.1, ())⟩
def containsEntryS : FSpec := ⟨[.val (tyStyTTp), .val ((.clo 89 (.pair (.clo 87 .unit) .unit)))], [.val (.bool)], fun z => some (containsEntry z.1 z.2.1, ())⟩
def indexNumsS : FSpec := ⟨[.val (tySi64), .val ((.clo 102 (.pair (.int .i64) .unit)))], [.val ((.int .i64))], fun z => some (indexNums z.1 z.2.1, ())⟩
def containsNumsS : FSpec := ⟨[.val (tySi64), .val ((.clo 102 (.pair (.int .i64) .unit)))], [.val (.bool)], fun z => some (containsNums z.1 z.2.1, ())⟩
def eqTS : FSpec := ⟨[.val (tyStyTTp), .val (tyStyTTp)], [.val (.bool)], fun z => some (eqL z.1 z.2.1, ())⟩
def iwithinS : FSpec := ⟨[.val ((.int .i64)), .val ((.int .i64))], [.val (.bool)], fun z => some (iwithin z.1 z.2.1, ())⟩
def itypS : FSpec := ⟨[.val (tyTTp)], [.val (.bool)], fun z => some (ityp z.1, ())⟩
def ityp1S : FSpec := ⟨[.val (tyTTp)], [.val (.bool)], fun z => some (ityp1 z.1, ())⟩
def itypesS : FSpec := ⟨[.val (tyStyTTp), .val ((.int .i64))], [.val (.bool)], fun z => some (itypes z.1 z.2.1, ())⟩
def inum1S : FSpec := ⟨[.val ((.int .i64)), .cap ((.int .i64))], [.val (.bool)], fun z => some (inum1 z.1 z.2.1, ())⟩
def inumsS : FSpec := ⟨[.val (tySi64), .val ((.int .i64)), .val ((.int .i64))], [.val (.bool)], fun z => some (inums z.1 z.2.1 z.2.2.1, ())⟩
def imethodS : FSpec := ⟨[.val (tyTMt)], [.val (.bool)], fun z => some (imethod z.1, ())⟩
def iclassS : FSpec := ⟨[.val (tyTCl)], [.val (.bool)], fun z => some (iclass z.1, ())⟩
def ifits1S : FSpec := ⟨[.val (tyTCl)], [.val (.bool)], fun z => some (ifits1 z.1, ())⟩
def ifits2S : FSpec := ⟨[.val (tyTMt)], [.val (.bool)], fun z => some (ifits2 z.1, ())⟩
def ifitsS : FSpec := ⟨[.val (tyTIm)], [.val (.bool)], fun z => some (ifits z.1, ())⟩
def kgoodS : FSpec := ⟨[.val (tyTTp), .val ((.int .i64))], [.val (.bool)], fun z => some (kgood z.1 z.2.1, ())⟩
def kisrefS : FSpec := ⟨[.val (tyTTp)], [.val (.bool)], fun z => some (kisref z.1, ())⟩
def kupS : FSpec := ⟨[.val (tyStyTCl), .val ((.int .i64))], [.val ((.int .i64))], fun z => some (kup z.1 z.2.1, ())⟩
def kbelowS : FSpec := ⟨[.val (tyStyTCl), .val ((.int .i64)), .val ((.int .i64))], [.val (.bool)], fun z => some (kbelow z.1 z.2.1 z.2.2.1, ())⟩
def ksubS : FSpec := ⟨[.val (tyStyTCl), .val (tyTTp), .val (tyTTp)], [.val (.bool)], fun z => some (ksub z.1 z.2.1 z.2.2.1, ())⟩
def raboveS : FSpec := ⟨[.val (tyStyTCl), .val ((.int .i64))], [.val (tySi64)], fun z => rabove z.1 z.2.1⟩
def risrefS : FSpec := ⟨[.val (tyTTp)], [.val (.bool)], fun z => some (risref z.1, ())⟩
def rgoodS : FSpec := ⟨[.val (tyTTp), .val ((.int .i64))], [.val (.bool)], fun z => some (rgood z.1 z.2.1, ())⟩
def rsubS : FSpec := ⟨[.val (tyStyTCl), .val (tyTTp), .val (tyTTp)], [.val (.bool)], fun z => rsub z.1 z.2.1 z.2.2.1⟩
def rtypesS : FSpec := ⟨[.val (tyStyTTp), .val (tyStyTTp)], [.val (.bool)], fun z => some (rtypes z.1 z.2.1, ())⟩
def r5inS : FSpec := ⟨[.val ((.int .i64)), .val ((.int .i64)), .val ((.int .i64))], [.val (.bool)], fun z => some (r5in z.1 z.2.1 z.2.2.1, ())⟩
def r5listS : FSpec := ⟨[.val (tySi64), .val ((.int .i64)), .val ((.int .i64))], [.val (.bool)], fun z => some (r5list z.1 z.2.1 z.2.2.1, ())⟩
def r5typS : FSpec := ⟨[.val (tyTTp)], [.val (.bool)], fun z => some (r5typ z.1, ())⟩
def r5typesS : FSpec := ⟨[.val (tyStyTTp), .val ((.int .i64))], [.val (.bool)], fun z => some (r5types z.1 z.2.1, ())⟩
def r5fitsS : FSpec := ⟨[.val (tyTIm)], [.val (.bool)], fun z => some (r5fits z.1, ())⟩
def r5fieldsS : FSpec := ⟨[.val (tyTIm), .val ((.int .i64))], [.tip (tyStyTTp)], fun z => r5fields z.1 z.2.1⟩
def r5goodS : FSpec := ⟨[.val (tyTIm), .val (tyStyTTp)], [.val (.bool)], fun z => some (r5good z.1 z.2.1, ())⟩
def r5classS : FSpec := ⟨[.val (tyTIm), .val ((.int .i64))], [.val (.bool)], fun z => r5class z.1 z.2.1⟩
def r5namedS : FSpec := ⟨[.val (tyTIm), .val (tyTMt), .val (tyTIns)], [.val (.bool)], fun z => r5named z.1 z.2.1 z.2.2.1⟩
def r5methodS : FSpec := ⟨[.val (tyTIm), .val (tyTMt)], [.val (.bool)], fun z => r5method z.1 z.2.1⟩
def r5saneS : FSpec := ⟨[.val (tyTIm)], [.val ((.int .i64))], fun z => some (r5sane z.1, ())⟩
def sinS : FSpec := ⟨[.val ((.int .i64)), .val ((.int .i64))], [.val (.bool)], fun z => some (sin z.1 z.2.1, ())⟩
def sallS : FSpec := ⟨[.val (tyTIm), .val (tyStyStyTTp)], [.val (.bool)], fun z => some (sall z.1 z.2.1, ())⟩
def saboveS : FSpec := ⟨[.val (tyTIm), .val ((.int .i64))], [.val ((.int .i64)), .val (tySi64)], fun z => sabove z.1 z.2.1⟩
def sfitsS : FSpec := ⟨[.val (tyTIm), .val ((.int .i64)), .val ((.int .i64))], [.val (.bool)], fun z => sfits z.1 z.2.1 z.2.2.1⟩
def salikeS : FSpec := ⟨[.val (tyTMt), .val (tyTMt)], [.val (.bool)], fun z => some (salike z.1 z.2.1, ())⟩
def sclassS : FSpec := ⟨[.val (tyTIm), .val ((.int .i64))], [.val (.bool)], fun z => sclass z.1 z.2.1⟩
def sfieldsS : FSpec := ⟨[.val ((.int .i64)), .cap (tyTIm)], [.val ((.int .i64))], fun z => sfields z.1 z.2.1⟩
def sinstrS : FSpec := ⟨[.val (tyTIm), .val (tyTMt), .val (tyTIns), .val ((.clo 85 (.pair tyTIm .unit)))], [.val (.bool)], fun z => sinstr z.1 z.2.1 z.2.2.1 z.2.2.2.1⟩
def smethodS : FSpec := ⟨[.val (tyTIm), .val (tyTMt)], [.val (.bool)], fun z => smethod z.1 z.2.1⟩
def sentry1S : FSpec := ⟨[.val (tyTTp)], [.val (.bool)], fun z => some (sentry1 z.1, ())⟩
def sentry2S : FSpec := ⟨[.val (tyTTp), .cap ((.clo 87 .unit))], [.val (.bool)], fun z => some (sentry2 z.1 z.2.1, ())⟩
def sentryS : FSpec := ⟨[.val (tyTIm), .val ((.int .i64))], [.val (.bool)], fun z => sentry z.1 z.2.1⟩
def scheckS : FSpec := ⟨[.val (tyTIm)], [.val ((.int .i64))], fun z => some (scheck z.1, ())⟩
def awake6S : FSpec := ⟨[], [.val (.bool)], fun _ => awake6N⟩
def small6S : FSpec := ⟨[.val (tyTIm)], [.val (.bool)], fun z => some (small6 z.1, ())⟩
def putG : Ctx := { ty := [(3, (.int .i64)), (5, (.int .u8)), (46, tySu8), (113, (.int .u64))], fns := [], tips := [11, 20], n := 25, bxs := [], ptrs := [] }
def putA : Ann := ⟨[(2, (3, [.val 0 (tySu8) true, .val 5 ((.int .u64)) false]))], [], [], []⟩
theorem putE (fuel : Nat) (b : List Int) (n : Int) : fnRun putG putA fuel Try.f32 [.tip (tySu8), .val ((.int .i64))] [.tip (tySu8)] (b, n, ()) = putN fuel b n := by kernel_rfl
def rinG : Ctx := { ty := [(3, (.int .i64)), (26, tySi64)], fns := [], tips := [], n := 18, bxs := [], ptrs := [] }
def rinA : Ann := ⟨[(2, (4, [.val 5 ((.int .i64)) false]))], [], [], []⟩
theorem rinE (fuel : Nat) (l : List Int) (x : Int) : fnRun rinG rinA fuel Try.f103 [.val (tySi64), .val ((.int .i64))] [.val (.bool)] (l, x, ()) = rinN fuel l x := by kernel_rfl
theorem rinO : FOk Try.prog 103 rinS := fok (G := rinG) (fn := Try.f103) (A := rinA) (ctxOk (by kernel_rfl) (by kernel_rfl) trivial) Try.func103 (by kernel_rfl) (by kernel_rfl) fun z r _ h => (rin_ok _ _ r h).elim fun k hk => ⟨k, (rinE k z.1 z.2.1).trans hk⟩
def rargsG : Ctx := { ty := [(26, tySi64)], fns := [(103, rinS)], tips := [], n := 24, bxs := [], ptrs := [] }
def rargsA : Ann := ⟨[], [], [], []⟩
theorem rargsE (fuel : Nat) (o : Int) : fnRun rargsG rargsA fuel Try.f57 [.val ((.int .i64))] [.val ((.int .i64))] (o, ()) = rargsN o := by kernel_rfl
theorem rargsO : FOk Try.prog 57 rargsS := fok (G := rargsG) (fn := Try.f57) (A := rargsA) (ctxOk (by kernel_rfl) (by kernel_rfl) ⟨rinO, trivial⟩) Try.func57 (by kernel_rfl) (by kernel_rfl) fun z r _ h => ⟨0, (rargsE 0 z.1).trans ((rargs_eq _).trans h)⟩
def iargsG : Ctx := { ty := [], fns := [], tips := [], n := 26, bxs := [], ptrs := [] }
def iargsA : Ann := ⟨[], [(2, (11, [.val 4 (.bool) false]))], [], []⟩
theorem iargsE (fuel : Nat) (o : Int) : fnRun iargsG iargsA fuel Try.f120 [.val ((.int .i64))] [.val ((.int .i64))] (o, ()) = iargsN o := by kernel_rfl
theorem iargsO : FOk Try.prog 120 iargsS := fok (G := iargsG) (fn := Try.f120) (A := iargsA) (ctxOk (by kernel_rfl) (by kernel_rfl) trivial) Try.func120 (by kernel_rfl) (by kernel_rfl) fun z r _ h => ⟨0, (iargsE 0 z.1).trans ((iargs_eq _).trans h)⟩
def withinG : Ctx := { ty := [], fns := [], tips := [], n := 18, bxs := [], ptrs := [] }
def withinA : Ann := ⟨[], [], [], []⟩
theorem withinE (fuel : Nat) (n : Int) (c : Int) (a : Int) : fnRun withinG withinA fuel Try.f121 [.val ((.int .i64)), .val ((.int .i64)), .val ((.int .i64))] [.val (.bool)] (n, c, a, ()) = withinN n c a := by kernel_rfl
theorem withinO : FOk Try.prog 121 withinS := fok (G := withinG) (fn := Try.f121) (A := withinA) (ctxOk (by kernel_rfl) (by kernel_rfl) trivial) Try.func121 (by kernel_rfl) (by kernel_rfl) fun z r _ h => ⟨0, (withinE 0 z.1 z.2.1 z.2.2.1).trans ((within_eq _ _ _).trans h)⟩
def igoodG : Ctx := { ty := [(3, (.int .i64)), (41, tyTIns)], fns := [(120, iargsS), (121, withinS)], tips := [], n := 21, bxs := [1], ptrs := [] }
def igoodA : Ann := ⟨[], [], [], []⟩
theorem igoodE (fuel : Nat) (i : Ins) : fnRun igoodG igoodA fuel Try.f100 [.val (tyTIns)] [.val (.bool)] (i, ()) = igoodN i := by kernel_rfl
theorem igoodO : FOk Try.prog 100 igoodS := fok (G := igoodG) (fn := Try.f100) (A := igoodA) (ctxOk (by kernel_rfl) (by kernel_rfl) ⟨iargsO, withinO, trivial⟩) Try.func100 (by kernel_rfl) (by kernel_rfl) fun z r _ h => ⟨0, (igoodE 0 z.1).trans ((igood_eq _).trans h)⟩
def rinstrG : Ctx := { ty := [(3, (.int .i64)), (41, tyTIns)], fns := [(57, rargsS)], tips := [], n := 45, bxs := [1], ptrs := [] }
def rinstrA : Ann := ⟨[], [(2, (2, []))], [], []⟩
theorem rinstrE (fuel : Nat) (i : Ins) : fnRun rinstrG rinstrA fuel Try.f42 [.val (tyTIns)] [.val (.bool)] (i, ()) = rinstrN i := by kernel_rfl
theorem rinstrO : FOk Try.prog 42 rinstrS := fok (G := rinstrG) (fn := Try.f42) (A := rinstrA) (ctxOk (by kernel_rfl) (by kernel_rfl) ⟨rargsO, trivial⟩) Try.func42 (by kernel_rfl) (by kernel_rfl) fun z r _ h => ⟨0, (rinstrE 0 z.1).trans ((rinstr_eq _).trans h)⟩
def iwithinG : Ctx := { ty := [], fns := [], tips := [], n := 12, bxs := [], ptrs := [] }
def iwithinA : Ann := ⟨[], [], [], []⟩
theorem iwithinE (fuel : Nat) (n : Int) (m : Int) : fnRun iwithinG iwithinA fuel Try.f51 [.val ((.int .i64)), .val ((.int .i64))] [.val (.bool)] (n, m, ()) = iwithinN n m := by kernel_rfl
theorem iwithinO : FOk Try.prog 51 iwithinS := fok (G := iwithinG) (fn := Try.f51) (A := iwithinA) (ctxOk (by kernel_rfl) (by kernel_rfl) trivial) Try.func51 (by kernel_rfl) (by kernel_rfl) fun z r _ h => ⟨0, (iwithinE 0 z.1 z.2.1).trans ((iwithin_eq _ _).trans h)⟩
def itypG : Ctx := { ty := [(3, (.int .i64)), (35, tyTTp)], fns := [(51, iwithinS)], tips := [], n := 21, bxs := [1], ptrs := [] }
def itypA : Ann := ⟨[], [], [], []⟩
theorem itypE (fuel : Nat) (t : Tp) : fnRun itypG itypA fuel Try.f97 [.val (tyTTp)] [.val (.bool)] (t, ()) = itypN t := by kernel_rfl
theorem itypO : FOk Try.prog 97 itypS := fok (G := itypG) (fn := Try.f97) (A := itypA) (ctxOk (by kernel_rfl) (by kernel_rfl) ⟨iwithinO, trivial⟩) Try.func97 (by kernel_rfl) (by kernel_rfl) fun z r _ h => ⟨0, (itypE 0 z.1).trans ((ityp_eq _).trans h)⟩
def ityp1G : Ctx := { ty := [(35, tyTTp)], fns := [(97, itypS)], tips := [], n := 6, bxs := [1], ptrs := [] }
def ityp1A : Ann := ⟨[], [], [], []⟩
theorem ityp1E (fuel : Nat) (t : Tp) : fnRun ityp1G ityp1A fuel Try.f96 [.val (tyTTp)] [.val (.bool)] (t, ()) = ityp1N t := by kernel_rfl
theorem ityp1O : FOk Try.prog 96 ityp1S := fok (G := ityp1G) (fn := Try.f96) (A := ityp1A) (ctxOk (by kernel_rfl) (by kernel_rfl) ⟨itypO, trivial⟩) Try.func96 (by kernel_rfl) (by kernel_rfl) fun z r _ h => ⟨0, (ityp1E 0 z.1).trans ((ityp1_eq _).trans h)⟩
def indexTypesG : Ctx := { ty := [(23, tyStyTTp), (35, tyTTp)], fns := [(96, ityp1S)], tips := [], n := 19, bxs := [], ptrs := [] }
def indexTypesA : Ann := ⟨[(2, (5, [.val 8 ((.int .i64)) false]))], [], [], []⟩
theorem indexTypesE (fuel : Nat) (l : List Tp) (c : Unit) : fnRun indexTypesG indexTypesA fuel Try.f117 [.val (tyStyTTp), .val ((.clo 96 .unit))] [.val ((.int .i64))] (l, c, ()) = indexTypesN fuel l c := by kernel_rfl
theorem indexTypesO : FOk Try.prog 117 indexTypesS := fok (G := indexTypesG) (fn := Try.f117) (A := indexTypesA) (ctxOk (by kernel_rfl) (by kernel_rfl) ⟨ityp1O, trivial⟩) Try.func117 (by kernel_rfl) (by kernel_rfl) fun z r hl h => (indexTypes_eq _ _ hl).elim fun k hk => ⟨k, (indexTypesE k z.1 z.2.1).trans (hk.trans h)⟩
def containsTypesG : Ctx := { ty := [], fns := [(98000117, indexTypesS)], tips := [], n := 9, bxs := [], ptrs := [] }
def containsTypesA : Ann := ⟨[], [], [], []⟩
theorem containsTypesE (fuel : Nat) (l : List Tp) (c : Unit) : fnRun containsTypesG containsTypesA fuel Try.f88 [.val (tyStyTTp), .val ((.clo 96 .unit))] [.val (.bool)] (l, c, ()) = containsTypesN l c := by kernel_rfl
theorem containsTypesO : FOk Try.prog 88 containsTypesS := fok (G := containsTypesG) (fn := Try.f88) (A := containsTypesA) (ctxOk (by kernel_rfl) (by kernel_rfl) ⟨indexTypesO, trivial⟩) Try.func88 (by kernel_rfl) (by kernel_rfl) fun z r hl h => ⟨0, (containsTypesE 0 z.1 z.2.1).trans ((containsTypes_eq _ _ hl).trans h)⟩
def itypesG : Ctx := { ty := [(23, tyStyTTp)], fns := [(98000088, containsTypesS)], tips := [], n := 14, bxs := [], ptrs := [] }
def itypesA : Ann := ⟨[], [], [], []⟩
theorem itypesE (fuel : Nat) (l : List Tp) (m : Int) : fnRun itypesG itypesA fuel Try.f43 [.val (tyStyTTp), .val ((.int .i64))] [.val (.bool)] (l, m, ()) = itypesN l m := by kernel_rfl
theorem itypesO : FOk Try.prog 43 itypesS := fok (G := itypesG) (fn := Try.f43) (A := itypesA) (ctxOk (by kernel_rfl) (by kernel_rfl) ⟨containsTypesO, trivial⟩) Try.func43 (by kernel_rfl) (by kernel_rfl) fun z r _ h => ⟨0, (itypesE 0 z.1 z.2.1).trans ((itypes_eq _ _).trans h)⟩
def inum1G : Ctx := { ty := [(3, (.int .i64))], fns := [(51, iwithinS)], tips := [], n := 8, bxs := [], ptrs := [] }
def inum1A : Ann := ⟨[], [], [], []⟩
theorem inum1E (fuel : Nat) (n : Int) (m : Int) : fnRun inum1G inum1A fuel Try.f102 [.val ((.int .i64)), .cap ((.int .i64))] [.val (.bool)] (n, m, ()) = inum1N n m := by kernel_rfl
theorem inum1O : FOk Try.prog 102 inum1S := fok (G := inum1G) (fn := Try.f102) (A := inum1A) (ctxOk (by kernel_rfl) (by kernel_rfl) ⟨iwithinO, trivial⟩) Try.func102 (by kernel_rfl) (by kernel_rfl) fun z r _ h => ⟨0, (inum1E 0 z.1 z.2.1).trans ((inum1_eq _ _).trans h)⟩
def indexNumsG : Ctx := { ty := [(3, (.int .i64)), (26, tySi64)], fns := [(102, inum1S)], tips := [], n := 19, bxs := [], ptrs := [] }
def indexNumsA : Ann := ⟨[(2, (5, [.val 8 ((.int .i64)) false]))], [], [], []⟩
theorem indexNumsE (fuel : Nat) (l : List Int) (c : Int × Unit) : fnRun indexNumsG indexNumsA fuel Try.f122 [.val (tySi64), .val ((.clo 102 (.pair (.int .i64) .unit)))] [.val ((.int .i64))] (l, c, ()) = indexNumsN fuel l c := by kernel_rfl
theorem indexNumsO : FOk Try.prog 122 indexNumsS := fok (G := indexNumsG) (fn := Try.f122) (A := indexNumsA) (ctxOk (by kernel_rfl) (by kernel_rfl) ⟨inum1O, trivial⟩) Try.func122 (by kernel_rfl) (by kernel_rfl) fun z r hl h => (indexNums_eq _ _ hl).elim fun k hk => ⟨k, (indexNumsE k z.1 z.2.1).trans (hk.trans h)⟩
def containsNumsG : Ctx := { ty := [], fns := [(104000122, indexNumsS)], tips := [], n := 9, bxs := [], ptrs := [] }
def containsNumsA : Ann := ⟨[], [], [], []⟩
theorem containsNumsE (fuel : Nat) (l : List Int) (c : Int × Unit) : fnRun containsNumsG containsNumsA fuel Try.f101 [.val (tySi64), .val ((.clo 102 (.pair (.int .i64) .unit)))] [.val (.bool)] (l, c, ()) = containsNumsN l c := by kernel_rfl
theorem containsNumsO : FOk Try.prog 101 containsNumsS := fok (G := containsNumsG) (fn := Try.f101) (A := containsNumsA) (ctxOk (by kernel_rfl) (by kernel_rfl) ⟨indexNumsO, trivial⟩) Try.func101 (by kernel_rfl) (by kernel_rfl) fun z r hl h => ⟨0, (containsNumsE 0 z.1 z.2.1).trans ((containsNums_eq _ _ hl).trans h)⟩
def inumsG : Ctx := { ty := [(3, (.int .i64)), (26, tySi64)], fns := [(104000101, containsNumsS)], tips := [], n := 17, bxs := [5], ptrs := [] }
def inumsA : Ann := ⟨[], [], [], []⟩
theorem inumsE (fuel : Nat) (l : List Int) (c : Int) (m : Int) : fnRun inumsG inumsA fuel Try.f50 [.val (tySi64), .val ((.int .i64)), .val ((.int .i64))] [.val (.bool)] (l, c, m, ()) = inumsN l c m := by kernel_rfl
theorem inumsO : FOk Try.prog 50 inumsS := fok (G := inumsG) (fn := Try.f50) (A := inumsA) (ctxOk (by kernel_rfl) (by kernel_rfl) ⟨containsNumsO, trivial⟩) Try.func50 (by kernel_rfl) (by kernel_rfl) fun z r _ h => ⟨0, (inumsE 0 z.1 z.2.1 z.2.2.1).trans ((inums_eq _ _ _).trans h)⟩
def iclassG : Ctx := { ty := [(3, (.int .i64)), (23, tyStyTTp), (26, tySi64), (44, tyTCl)], fns := [(43, itypesS), (50, inumsS)], tips := [], n := 21, bxs := [1], ptrs := [] }
def iclassA : Ann := ⟨[], [], [], []⟩
theorem iclassE (fuel : Nat) (x : Cl) : fnRun iclassG iclassA fuel Try.f46 [.val (tyTCl)] [.val (.bool)] (x, ()) = iclassN x := by kernel_rfl
theorem iclassO : FOk Try.prog 46 iclassS := fok (G := iclassG) (fn := Try.f46) (A := iclassA) (ctxOk (by kernel_rfl) (by kernel_rfl) ⟨itypesO, inumsO, trivial⟩) Try.func46 (by kernel_rfl) (by kernel_rfl) fun z r _ h => ⟨0, (iclassE 0 z.1).trans ((iclass_eq _).trans h)⟩
def ifits1G : Ctx := { ty := [(44, tyTCl)], fns := [(46, iclassS)], tips := [], n := 6, bxs := [1], ptrs := [] }
def ifits1A : Ann := ⟨[], [], [], []⟩
theorem ifits1E (fuel : Nat) (x : Cl) : fnRun ifits1G ifits1A fuel Try.f45 [.val (tyTCl)] [.val (.bool)] (x, ()) = ifits1N x := by kernel_rfl
theorem ifits1O : FOk Try.prog 45 ifits1S := fok (G := ifits1G) (fn := Try.f45) (A := ifits1A) (ctxOk (by kernel_rfl) (by kernel_rfl) ⟨iclassO, trivial⟩) Try.func45 (by kernel_rfl) (by kernel_rfl) fun z r _ h => ⟨0, (ifits1E 0 z.1).trans ((ifits1_eq _).trans h)⟩
def indexClassG : Ctx := { ty := [(22, tyStyTCl), (44, tyTCl)], fns := [(45, ifits1S)], tips := [], n := 19, bxs := [], ptrs := [] }
def indexClassA : Ann := ⟨[(2, (5, [.val 8 ((.int .i64)) false]))], [], [], []⟩
theorem indexClassE (fuel : Nat) (l : List Cl) (c : Unit) : fnRun indexClassG indexClassA fuel Try.f98 [.val (tyStyTCl), .val ((.clo 45 .unit))] [.val ((.int .i64))] (l, c, ()) = indexClassN fuel l c := by kernel_rfl
theorem indexClassO : FOk Try.prog 98 indexClassS := fok (G := indexClassG) (fn := Try.f98) (A := indexClassA) (ctxOk (by kernel_rfl) (by kernel_rfl) ⟨ifits1O, trivial⟩) Try.func98 (by kernel_rfl) (by kernel_rfl) fun z r hl h => (indexClass_eq _ _ hl).elim fun k hk => ⟨k, (indexClassE k z.1 z.2.1).trans (hk.trans h)⟩
def containsClassG : Ctx := { ty := [], fns := [(47000098, indexClassS)], tips := [], n := 9, bxs := [], ptrs := [] }
def containsClassA : Ann := ⟨[], [], [], []⟩
theorem containsClassE (fuel : Nat) (l : List Cl) (c : Unit) : fnRun containsClassG containsClassA fuel Try.f44 [.val (tyStyTCl), .val ((.clo 45 .unit))] [.val (.bool)] (l, c, ()) = containsClassN l c := by kernel_rfl
theorem containsClassO : FOk Try.prog 44 containsClassS := fok (G := containsClassG) (fn := Try.f44) (A := containsClassA) (ctxOk (by kernel_rfl) (by kernel_rfl) ⟨indexClassO, trivial⟩) Try.func44 (by kernel_rfl) (by kernel_rfl) fun z r hl h => ⟨0, (containsClassE 0 z.1 z.2.1).trans ((containsClass_eq _ _ hl).trans h)⟩
def imethodG : Ctx := { ty := [(3, (.int .i64)), (23, tyStyTTp), (26, tySi64), (35, tyTTp), (36, tyStyTIns), (38, tyTMt), (41, tyTIns)], fns := [(43, itypesS), (50, inumsS), (51, iwithinS), (97, itypS), (100, igoodS)], tips := [], n := 51, bxs := [1, 4], ptrs := [] }
def imethodA : Ann := ⟨[(4, (5, [.val 30 ((.int .i64)) false]))], [], [], []⟩
theorem imethodE (fuel : Nat) (x : Mt) : fnRun imethodG imethodA fuel Try.f49 [.val (tyTMt)] [.val (.bool)] (x, ()) = imethodN fuel x := by kernel_rfl
theorem imethodO : FOk Try.prog 49 imethodS := fok (G := imethodG) (fn := Try.f49) (A := imethodA) (ctxOk (by kernel_rfl) (by kernel_rfl) ⟨itypesO, inumsO, iwithinO, itypO, igoodO, trivial⟩) Try.func49 (by kernel_rfl) (by kernel_rfl) fun z r _ h => (imethod_eq _).elim fun k hk => ⟨k, (imethodE k z.1).trans (hk.trans h)⟩
def ifits2G : Ctx := { ty := [(38, tyTMt)], fns := [(49, imethodS)], tips := [], n := 6, bxs := [1], ptrs := [] }
def ifits2A : Ann := ⟨[], [], [], []⟩
theorem ifits2E (fuel : Nat) (x : Mt) : fnRun ifits2G ifits2A fuel Try.f48 [.val (tyTMt)] [.val (.bool)] (x, ()) = ifits2N x := by kernel_rfl
theorem ifits2O : FOk Try.prog 48 ifits2S := fok (G := ifits2G) (fn := Try.f48) (A := ifits2A) (ctxOk (by kernel_rfl) (by kernel_rfl) ⟨imethodO, trivial⟩) Try.func48 (by kernel_rfl) (by kernel_rfl) fun z r _ h => ⟨0, (ifits2E 0 z.1).trans ((ifits2_eq _).trans h)⟩
def indexMethodG : Ctx := { ty := [(25, tyStyTMt), (38, tyTMt)], fns := [(48, ifits2S)], tips := [], n := 19, bxs := [], ptrs := [] }
def indexMethodA : Ann := ⟨[(2, (5, [.val 8 ((.int .i64)) false]))], [], [], []⟩
theorem indexMethodE (fuel : Nat) (l : List Mt) (c : Unit) : fnRun indexMethodG indexMethodA fuel Try.f99 [.val (tyStyTMt), .val ((.clo 48 .unit))] [.val ((.int .i64))] (l, c, ()) = indexMethodN fuel l c := by kernel_rfl
theorem indexMethodO : FOk Try.prog 99 indexMethodS := fok (G := indexMethodG) (fn := Try.f99) (A := indexMethodA) (ctxOk (by kernel_rfl) (by kernel_rfl) ⟨ifits2O, trivial⟩) Try.func99 (by kernel_rfl) (by kernel_rfl) fun z r hl h => (indexMethod_eq _ _ hl).elim fun k hk => ⟨k, (indexMethodE k z.1 z.2.1).trans (hk.trans h)⟩
def containsMethodG : Ctx := { ty := [], fns := [(50000099, indexMethodS)], tips := [], n := 9, bxs := [], ptrs := [] }
def containsMethodA : Ann := ⟨[], [], [], []⟩
theorem containsMethodE (fuel : Nat) (l : List Mt) (c : Unit) : fnRun containsMethodG containsMethodA fuel Try.f47 [.val (tyStyTMt), .val ((.clo 48 .unit))] [.val (.bool)] (l, c, ()) = containsMethodN l c := by kernel_rfl
theorem containsMethodO : FOk Try.prog 47 containsMethodS := fok (G := containsMethodG) (fn := Try.f47) (A := containsMethodA) (ctxOk (by kernel_rfl) (by kernel_rfl) ⟨indexMethodO, trivial⟩) Try.func47 (by kernel_rfl) (by kernel_rfl) fun z r hl h => ⟨0, (containsMethodE 0 z.1 z.2.1).trans ((containsMethod_eq _ _ hl).trans h)⟩
def sentry1G : Ctx := { ty := [(35, tyTTp)], fns := [], tips := [], n := 6, bxs := [1], ptrs := [] }
def sentry1A : Ann := ⟨[], [], [], []⟩
theorem sentry1E (fuel : Nat) (t : Tp) : fnRun sentry1G sentry1A fuel Try.f87 [.val (tyTTp)] [.val (.bool)] (t, ()) = sentry1N t := by kernel_rfl
theorem sentry1O : FOk Try.prog 87 sentry1S := fok (G := sentry1G) (fn := Try.f87) (A := sentry1A) (ctxOk (by kernel_rfl) (by kernel_rfl) trivial) Try.func87 (by kernel_rfl) (by kernel_rfl) fun z r _ h => ⟨0, (sentry1E 0 z.1).trans ((sentry1_eq _).trans h)⟩
def sentry2G : Ctx := { ty := [(35, tyTTp), (71, .any)], fns := [(87, sentry1S)], tips := [], n := 8, bxs := [2], ptrs := [] }
def sentry2A : Ann := ⟨[], [], [], []⟩
theorem sentry2E (fuel : Nat) (t : Tp) (f : Unit) : fnRun sentry2G sentry2A fuel Try.f89 [.val (tyTTp), .cap ((.clo 87 .unit))] [.val (.bool)] (t, f, ()) = sentry2N t f := by kernel_rfl
theorem sentry2O : FOk Try.prog 89 sentry2S := fok (G := sentry2G) (fn := Try.f89) (A := sentry2A) (ctxOk (by kernel_rfl) (by kernel_rfl) ⟨sentry1O, trivial⟩) Try.func89 (by kernel_rfl) (by kernel_rfl) fun z r _ h => ⟨0, (sentry2E 0 z.1 z.2.1).trans ((sentry2_eq _ _).trans h)⟩
def indexEntryG : Ctx := { ty := [(23, tyStyTTp), (35, tyTTp)], fns := [(89, sentry2S)], tips := [], n := 19, bxs := [], ptrs := [] }
def indexEntryA : Ann := ⟨[(2, (5, [.val 8 ((.int .i64)) false]))], [], [], []⟩
theorem indexEntryE (fuel : Nat) (l : List Tp) (c : Unit × Unit) : fnRun indexEntryG indexEntryA fuel Try.f117 [.val (tyStyTTp), .val ((.clo 89 (.pair (.clo 87 .unit) .unit)))] [.val ((.int .i64))] (l, c, ()) = indexEntryN fuel l c := by kernel_rfl
theorem indexEntryO : FOk Try.prog 117 indexEntryS := fok (G := indexEntryG) (fn := Try.f117) (A := indexEntryA) (ctxOk (by kernel_rfl) (by kernel_rfl) ⟨sentry2O, trivial⟩) Try.func117 (by kernel_rfl) (by kernel_rfl) fun z r hl h => (indexEntry_eq _ _ hl).elim fun k hk => ⟨k, (indexEntryE k z.1 z.2.1).trans (hk.trans h)⟩
def containsEntryG : Ctx := { ty := [], fns := [(91000117, indexEntryS)], tips := [], n := 9, bxs := [], ptrs := [] }
def containsEntryA : Ann := ⟨[], [], [], []⟩
theorem containsEntryE (fuel : Nat) (l : List Tp) (c : Unit × Unit) : fnRun containsEntryG containsEntryA fuel Try.f88 [.val (tyStyTTp), .val ((.clo 89 (.pair (.clo 87 .unit) .unit)))] [.val (.bool)] (l, c, ()) = containsEntryN l c := by kernel_rfl
theorem containsEntryO : FOk Try.prog 88 containsEntryS := fok (G := containsEntryG) (fn := Try.f88) (A := containsEntryA) (ctxOk (by kernel_rfl) (by kernel_rfl) ⟨indexEntryO, trivial⟩) Try.func88 (by kernel_rfl) (by kernel_rfl) fun z r hl h => ⟨0, (containsEntryE 0 z.1 z.2.1).trans ((containsEntry_eq _ _ hl).trans h)⟩
def eqTG : Ctx := { ty := [(23, tyStyTTp), (35, tyTTp)], fns := [], tips := [], n := 26, bxs := [], ptrs := [] }
def eqTA : Ann := ⟨[(4, (5, [.val 13 ((.int .i64)) false]))], [], [(6, [[], [0], [], [], [0, 1, 2, 3], [0, 1, 2, 3, 4], [0, 1, 2, 3], [0, 1, 2, 3], []])], []⟩
theorem eqTE (fuel : Nat) (a : List Tp) (b : List Tp) : fnRun eqTG eqTA fuel Try.f77 [.val (tyStyTTp), .val (tyStyTTp)] [.val (.bool)] (a, b, ()) = eqTN fuel a b := by kernel_rfl
theorem eqTO : FOk Try.prog 77 eqTS := fok (G := eqTG) (fn := Try.f77) (A := eqTA) (ctxOk (by kernel_rfl) (by kernel_rfl) trivial) Try.func77 (by kernel_rfl) (by kernel_rfl) fun z r hl h => (eqT_eq _ _ hl).elim fun k hk => ⟨k, (eqTE k z.1 z.2.1).trans (hk.trans h)⟩
def ifitsG : Ctx := { ty := [(3, (.int .i64)), (22, tyStyTCl), (23, tyStyTTp), (24, tySi32), (25, tyStyTMt), (26, tySi64), (28, tyTIm)], fns := [(43, itypesS), (50, inumsS), (51, iwithinS), (47000044, containsClassS), (50000047, containsMethodS)], tips := [], n := 46, bxs := [1], ptrs := [] }
def ifitsA : Ann := ⟨[], [], [], []⟩
theorem ifitsE (fuel : Nat) (m : Im) : fnRun ifitsG ifitsA fuel Try.f19 [.val (tyTIm)] [.val (.bool)] (m, ()) = ifitsN m := by kernel_rfl
theorem ifitsO : FOk Try.prog 19 ifitsS := fok (G := ifitsG) (fn := Try.f19) (A := ifitsA) (ctxOk (by kernel_rfl) (by kernel_rfl) ⟨itypesO, inumsO, iwithinO, containsClassO, containsMethodO, trivial⟩) Try.func19 (by kernel_rfl) (by kernel_rfl) fun z r _ h => ⟨0, (ifitsE 0 z.1).trans ((ifits_eq _).trans h)⟩
def kgoodG : Ctx := { ty := [(3, (.int .i64)), (35, tyTTp)], fns := [], tips := [], n := 24, bxs := [2], ptrs := [] }
def kgoodA : Ann := ⟨[], [(2, (2, [.val 7 (.bool) false]))], [], []⟩
theorem kgoodE (fuel : Nat) (t : Tp) (n : Int) : fnRun kgoodG kgoodA fuel Try.f80 [.val (tyTTp), .val ((.int .i64))] [.val (.bool)] (t, n, ()) = kgoodN t n := by kernel_rfl
theorem kgoodO : FOk Try.prog 80 kgoodS := fok (G := kgoodG) (fn := Try.f80) (A := kgoodA) (ctxOk (by kernel_rfl) (by kernel_rfl) trivial) Try.func80 (by kernel_rfl) (by kernel_rfl) fun z r _ h => ⟨0, (kgoodE 0 z.1 z.2.1).trans ((kgood_eq _ _).trans h)⟩
def kisrefG : Ctx := { ty := [(3, (.int .i64)), (35, tyTTp)], fns := [], tips := [], n := 16, bxs := [1], ptrs := [] }
def kisrefA : Ann := ⟨[], [], [], []⟩
theorem kisrefE (fuel : Nat) (t : Tp) : fnRun kisrefG kisrefA fuel Try.f123 [.val (tyTTp)] [.val (.bool)] (t, ()) = kisrefN t := by kernel_rfl
theorem kisrefO : FOk Try.prog 123 kisrefS := fok (G := kisrefG) (fn := Try.f123) (A := kisrefA) (ctxOk (by kernel_rfl) (by kernel_rfl) trivial) Try.func123 (by kernel_rfl) (by kernel_rfl) fun z r _ h => ⟨0, (kisrefE 0 z.1).trans ((kisref_eq _).trans h)⟩
def kupG : Ctx := { ty := [(3, (.int .i64)), (22, tyStyTCl), (44, tyTCl)], fns := [], tips := [], n := 27, bxs := [], ptrs := [] }
def kupA : Ann := ⟨[], [], [], []⟩
theorem kupE (fuel : Nat) (l : List Cl) (c : Int) : fnRun kupG kupA fuel Try.f125 [.val (tyStyTCl), .val ((.int .i64))] [.val ((.int .i64))] (l, c, ()) = kupN l c := by kernel_rfl
theorem kupO : FOk Try.prog 125 kupS := fok (G := kupG) (fn := Try.f125) (A := kupA) (ctxOk (by kernel_rfl) (by kernel_rfl) trivial) Try.func125 (by kernel_rfl) (by kernel_rfl) fun z r _ h => ⟨0, (kupE 0 z.1 z.2.1).trans ((kup_eq _ _).trans h)⟩
def kbelowG : Ctx := { ty := [(22, tyStyTCl)], fns := [(125, kupS)], tips := [], n := 29, bxs := [], ptrs := [] }
def kbelowA : Ann := ⟨[(3, (4, [.val 1 ((.int .i64)) false]))], [], [], []⟩
theorem kbelowE (fuel : Nat) (l : List Cl) (a : Int) (b : Int) : fnRun kbelowG kbelowA fuel Try.f124 [.val (tyStyTCl), .val ((.int .i64)), .val ((.int .i64))] [.val (.bool)] (l, a, b, ()) = kbelowN fuel l a b := by kernel_rfl
theorem kbelowO : FOk Try.prog 124 kbelowS := fok (G := kbelowG) (fn := Try.f124) (A := kbelowA) (ctxOk (by kernel_rfl) (by kernel_rfl) ⟨kupO, trivial⟩) Try.func124 (by kernel_rfl) (by kernel_rfl) fun z r _ h => (kbelow_eq _ _ _).elim fun k hk => ⟨k, (kbelowE k z.1 z.2.1 z.2.2.1).trans (hk.trans h)⟩
def ksubG : Ctx := { ty := [(3, (.int .i64)), (35, tyTTp)], fns := [(123, kisrefS), (124, kbelowS)], tips := [], n := 41, bxs := [4, 5], ptrs := [] }
def ksubA : Ann := ⟨[], [], [], []⟩
theorem ksubE (fuel : Nat) (l : List Cl) (a : Tp) (b : Tp) : fnRun ksubG ksubA fuel Try.f116 [.val (tyStyTCl), .val (tyTTp), .val (tyTTp)] [.val (.bool)] (l, a, b, ()) = ksubN l a b := by kernel_rfl
theorem ksubO : FOk Try.prog 116 ksubS := fok (G := ksubG) (fn := Try.f116) (A := ksubA) (ctxOk (by kernel_rfl) (by kernel_rfl) ⟨kisrefO, kbelowO, trivial⟩) Try.func116 (by kernel_rfl) (by kernel_rfl) fun z r _ h => ⟨0, (ksubE 0 z.1 z.2.1 z.2.2.1).trans ((ksub_eq _ _ _).trans h)⟩
def raboveG : Ctx := { ty := [(3, (.int .i64)), (22, tyStyTCl), (26, tySi64), (44, tyTCl)], fns := [], tips := [16], n := 30, bxs := [], ptrs := [] }
def raboveA : Ann := ⟨[(2, (6, [.val 1 ((.int .i64)) false, .val 5 (tySi64) true]))], [], [], []⟩
theorem raboveE (fuel : Nat) (l : List Cl) (c : Int) : fnRun raboveG raboveA fuel Try.f118 [.val (tyStyTCl), .val ((.int .i64))] [.val (tySi64)] (l, c, ()) = raboveN fuel l c := by kernel_rfl
theorem raboveO : FOk Try.prog 118 raboveS := fok (G := raboveG) (fn := Try.f118) (A := raboveA) (ctxOk (by kernel_rfl) (by kernel_rfl) trivial) Try.func118 (by kernel_rfl) (by kernel_rfl) fun z r _ h => (rabove_ok _ _ r h).elim fun k hk => ⟨k, (raboveE k z.1 z.2.1).trans hk⟩
def risrefG : Ctx := { ty := [(3, (.int .i64)), (35, tyTTp)], fns := [], tips := [], n := 16, bxs := [1], ptrs := [] }
def risrefA : Ann := ⟨[], [], [], []⟩
theorem risrefE (fuel : Nat) (t : Tp) : fnRun risrefG risrefA fuel Try.f119 [.val (tyTTp)] [.val (.bool)] (t, ()) = risrefN t := by kernel_rfl
theorem risrefO : FOk Try.prog 119 risrefS := fok (G := risrefG) (fn := Try.f119) (A := risrefA) (ctxOk (by kernel_rfl) (by kernel_rfl) trivial) Try.func119 (by kernel_rfl) (by kernel_rfl) fun z r _ h => ⟨0, (risrefE 0 z.1).trans ((risref_eq _).trans h)⟩
def rgoodG : Ctx := { ty := [(3, (.int .i64)), (35, tyTTp)], fns := [], tips := [], n := 34, bxs := [2], ptrs := [] }
def rgoodA : Ann := ⟨[], [], [], []⟩
theorem rgoodE (fuel : Nat) (t : Tp) (n : Int) : fnRun rgoodG rgoodA fuel Try.f90 [.val (tyTTp), .val ((.int .i64))] [.val (.bool)] (t, n, ()) = rgoodN t n := by kernel_rfl
theorem rgoodO : FOk Try.prog 90 rgoodS := fok (G := rgoodG) (fn := Try.f90) (A := rgoodA) (ctxOk (by kernel_rfl) (by kernel_rfl) trivial) Try.func90 (by kernel_rfl) (by kernel_rfl) fun z r _ h => ⟨0, (rgoodE 0 z.1 z.2.1).trans ((rgood_eq _ _).trans h)⟩
def rsubG : Ctx := { ty := [(3, (.int .i64)), (35, tyTTp)], fns := [(103, rinS), (118, raboveS), (119, risrefS)], tips := [], n := 40, bxs := [4, 5], ptrs := [] }
def rsubA : Ann := ⟨[], [], [(4, [[], [], [], [], [], [4], [4], [], [4, 5, 6, 7], [4, 5, 6, 7], [], [], []])], []⟩
theorem rsubE (fuel : Nat) (l : List Cl) (a : Tp) (b : Tp) : fnRun rsubG rsubA fuel Try.f92 [.val (tyStyTCl), .val (tyTTp), .val (tyTTp)] [.val (.bool)] (l, a, b, ()) = rsubN l a b := by kernel_rfl
theorem rsubO : FOk Try.prog 92 rsubS := fok (G := rsubG) (fn := Try.f92) (A := rsubA) (ctxOk (by kernel_rfl) (by kernel_rfl) ⟨rinO, raboveO, risrefO, trivial⟩) Try.func92 (by kernel_rfl) (by kernel_rfl) fun z r _ h => ⟨0, (rsubE 0 z.1 z.2.1 z.2.2.1).trans (rsub_ok _ _ _ r h)⟩
def rtypesG : Ctx := { ty := [(23, tyStyTTp), (35, tyTTp)], fns := [], tips := [], n := 26, bxs := [], ptrs := [] }
def rtypesA : Ann := ⟨[(4, (4, [.val 5 ((.int .i64)) false]))], [], [(6, [[], [0], [], [], [0, 1, 2, 3], [0, 1, 2, 3, 4], [0, 1, 2, 3], [0, 1, 2, 3], []])], []⟩
theorem rtypesE (fuel : Nat) (a : List Tp) (b : List Tp) : fnRun rtypesG rtypesA fuel Try.f65 [.val (tyStyTTp), .val (tyStyTTp)] [.val (.bool)] (a, b, ()) = rtypesN fuel a b := by kernel_rfl
theorem rtypesO : FOk Try.prog 65 rtypesS := fok (G := rtypesG) (fn := Try.f65) (A := rtypesA) (ctxOk (by kernel_rfl) (by kernel_rfl) trivial) Try.func65 (by kernel_rfl) (by kernel_rfl) fun z r hl h => (rtypes_eq _ _ hl).elim fun k hk => ⟨k, (rtypesE k z.1 z.2.1).trans (hk.trans h)⟩
def r5inG : Ctx := { ty := [], fns := [], tips := [], n := 15, bxs := [], ptrs := [] }
def r5inA : Ann := ⟨[], [], [], []⟩
theorem r5inE (fuel : Nat) (n : Int) (a : Int) (b : Int) : fnRun r5inG r5inA fuel Try.f40 [.val ((.int .i64)), .val ((.int .i64)), .val ((.int .i64))] [.val (.bool)] (n, a, b, ()) = r5inN n a b := by kernel_rfl
theorem r5inO : FOk Try.prog 40 r5inS := fok (G := r5inG) (fn := Try.f40) (A := r5inA) (ctxOk (by kernel_rfl) (by kernel_rfl) trivial) Try.func40 (by kernel_rfl) (by kernel_rfl) fun z r _ h => ⟨0, (r5inE 0 z.1 z.2.1 z.2.2.1).trans ((r5in_eq _ _ _).trans h)⟩
def r5listG : Ctx := { ty := [(3, (.int .i64)), (26, tySi64)], fns := [(40, r5inS)], tips := [], n := 25, bxs := [], ptrs := [] }
def r5listA : Ann := ⟨[(4, (4, [.val 7 ((.int .i64)) false]))], [], [], []⟩
theorem r5listE (fuel : Nat) (l : List Int) (c : Int) (m : Int) : fnRun r5listG r5listA fuel Try.f39 [.val (tySi64), .val ((.int .i64)), .val ((.int .i64))] [.val (.bool)] (l, c, m, ()) = r5listN fuel l c m := by kernel_rfl
theorem r5listO : FOk Try.prog 39 r5listS := fok (G := r5listG) (fn := Try.f39) (A := r5listA) (ctxOk (by kernel_rfl) (by kernel_rfl) ⟨r5inO, trivial⟩) Try.func39 (by kernel_rfl) (by kernel_rfl) fun z r hl h => (r5list_eq _ _ _ hl).elim fun k hk => ⟨k, (r5listE k z.1 z.2.1 z.2.2.1).trans (hk.trans h)⟩
def r5typG : Ctx := { ty := [(3, (.int .i64)), (35, tyTTp)], fns := [(40, r5inS)], tips := [], n := 21, bxs := [1], ptrs := [] }
def r5typA : Ann := ⟨[], [], [], []⟩
theorem r5typE (fuel : Nat) (t : Tp) : fnRun r5typG r5typA fuel Try.f41 [.val (tyTTp)] [.val (.bool)] (t, ()) = r5typN t := by kernel_rfl
theorem r5typO : FOk Try.prog 41 r5typS := fok (G := r5typG) (fn := Try.f41) (A := r5typA) (ctxOk (by kernel_rfl) (by kernel_rfl) ⟨r5inO, trivial⟩) Try.func41 (by kernel_rfl) (by kernel_rfl) fun z r _ h => ⟨0, (r5typE 0 z.1).trans ((r5typ_eq _).trans h)⟩
def r5typesG : Ctx := { ty := [(23, tyStyTTp), (35, tyTTp)], fns := [(41, r5typS)], tips := [], n := 22, bxs := [], ptrs := [] }
def r5typesA : Ann := ⟨[(4, (4, [.val 5 ((.int .i64)) false]))], [], [], []⟩
theorem r5typesE (fuel : Nat) (l : List Tp) (c : Int) : fnRun r5typesG r5typesA fuel Try.f38 [.val (tyStyTTp), .val ((.int .i64))] [.val (.bool)] (l, c, ()) = r5typesN fuel l c := by kernel_rfl
theorem r5typesO : FOk Try.prog 38 r5typesS := fok (G := r5typesG) (fn := Try.f38) (A := r5typesA) (ctxOk (by kernel_rfl) (by kernel_rfl) ⟨r5typO, trivial⟩) Try.func38 (by kernel_rfl) (by kernel_rfl) fun z r hl h => (r5types_eq _ _ hl).elim fun k hk => ⟨k, (r5typesE k z.1 z.2.1).trans (hk.trans h)⟩
def r5fitsG : Ctx := { ty := [(3, (.int .i64)), (22, tyStyTCl), (23, tyStyTTp), (24, tySi32), (25, tyStyTMt), (26, tySi64), (28, tyTIm), (35, tyTTp), (36, tyStyTIns), (38, tyTMt), (41, tyTIns), (44, tyTCl)], fns := [(38, r5typesS), (39, r5listS), (40, r5inS), (41, r5typS), (42, rinstrS)], tips := [], n := 142, bxs := [1, 4, 6], ptrs := [] }
def r5fitsA : Ann := ⟨[(4, (5, [.val 3 ((.int .i64)) false])), (10, (10, [.val 5 ((.int .i64)) false])), (16, (4, [.val 7 ((.int .i64)) false]))], [], [], []⟩
theorem r5fitsE (fuel : Nat) (m : Im) : fnRun r5fitsG r5fitsA fuel Try.f18 [.val (tyTIm)] [.val (.bool)] (m, ()) = r5fitsN fuel m := by kernel_rfl
theorem r5fitsO : FOk Try.prog 18 r5fitsS := fok (G := r5fitsG) (fn := Try.f18) (A := r5fitsA) (ctxOk (by kernel_rfl) (by kernel_rfl) ⟨r5typesO, r5listO, r5inO, r5typO, rinstrO, trivial⟩) Try.func18 (by kernel_rfl) (by kernel_rfl) fun z r hl h => (r5fits_eq _ hl).elim fun k hk => ⟨k, (r5fitsE k z.1).trans (hk.trans h)⟩
def r5fieldsG : Ctx := { ty := [(3, (.int .i64)), (22, tyStyTCl), (23, tyStyTTp), (26, tySi64), (28, tyTIm), (44, tyTCl)], fns := [(118, raboveS)], tips := [20, 31], n := 32, bxs := [2], ptrs := [] }
def r5fieldsA : Ann := ⟨[(4, (3, [.val 6 (tyStyTTp) true, .val 7 ((.int .i64)) false]))], [], [(6, [[], [0], [0], [0, 1, 2], [0, 1, 2, 3], [0, 1, 2], [0, 1, 2], [0], [0], [0], [], []])], []⟩
theorem r5fieldsE (fuel : Nat) (m : Im) (c : Int) : fnRun r5fieldsG r5fieldsA fuel Try.f91 [.val (tyTIm), .val ((.int .i64))] [.tip (tyStyTTp)] (m, c, ()) = r5fieldsN fuel m c := by kernel_rfl
theorem r5fieldsO : FOk Try.prog 91 r5fieldsS := fok (G := r5fieldsG) (fn := Try.f91) (A := r5fieldsA) (ctxOk (by kernel_rfl) (by kernel_rfl) ⟨raboveO, trivial⟩) Try.func91 (by kernel_rfl) (by kernel_rfl) fun z r _ h => (r5fields_ok _ _ r h).elim fun k hk => ⟨k, (r5fieldsE k z.1 z.2.1).trans hk⟩
def r5goodG : Ctx := { ty := [(22, tyStyTCl), (23, tyStyTTp), (28, tyTIm), (35, tyTTp)], fns := [(90, rgoodS)], tips := [], n := 21, bxs := [2], ptrs := [] }
def r5goodA : Ann := ⟨[(2, (4, [.val 5 ((.int .i64)) false]))], [], [(4, [[], [0], [], [], [0, 1, 2, 3], [0, 1, 2, 3], [0, 1, 2, 3], [], []])], []⟩
theorem r5goodE (fuel : Nat) (m : Im) (l : List Tp) : fnRun r5goodG r5goodA fuel Try.f29 [.val (tyTIm), .val (tyStyTTp)] [.val (.bool)] (m, l, ()) = r5goodN fuel m l := by kernel_rfl
theorem r5goodO : FOk Try.prog 29 r5goodS := fok (G := r5goodG) (fn := Try.f29) (A := r5goodA) (ctxOk (by kernel_rfl) (by kernel_rfl) ⟨rgoodO, trivial⟩) Try.func29 (by kernel_rfl) (by kernel_rfl) fun z r hl h => (r5good_eq _ _ hl).elim fun k hk => ⟨k, (r5goodE k z.1 z.2.1).trans (hk.trans h)⟩
def r5classG : Ctx := { ty := [(3, (.int .i64)), (22, tyStyTCl), (23, tyStyTTp), (25, tyStyTMt), (26, tySi64), (28, tyTIm), (35, tyTTp), (38, tyTMt), (44, tyTCl)], fns := [(29, r5goodS), (65, rtypesS), (91, r5fieldsS), (92, rsubS)], tips := [], n := 118, bxs := [2, 5, 8, 9], ptrs := [] }
def r5classA : Ann := ⟨[(10, (11, [.val 7 ((.int .i64)) false]))], [(5, (2, [.val 6 (tySi64) false])), (12, (9, []))], [(12, [[], [], [0, 1], [], [], [0, 1, 2, 3, 4], [0, 1, 2, 3, 4], [0, 1, 2, 3, 4], []]), (14, [[], [], [0, 1], [0, 1], [0, 1, 2, 3], [0, 1], [0, 1], [], [], [0, 1, 2, 3, 4, 5, 6, 7, 8], []]), (15, [[], [], [], [], [], [], [], [5, 6], [5, 6], [5, 6, 7, 8], [5, 6, 7, 8], [5, 6, 7, 8], [5, 6, 7, 8], [], [], []]), (18, [[], [], [0, 1], [0, 1, 2], [0, 1], [0, 1], [], [], [0, 1, 2, 3, 4, 5, 6, 7], []]), (19, [[], [], [], [0, 1, 2], [0, 1, 2], [0, 1, 2], [], [], [], [], [], [9, 10], [9, 10], [], []])], []⟩
theorem r5classE (fuel : Nat) (m : Im) (c : Int) : fnRun r5classG r5classA fuel Try.f30 [.val (tyTIm), .val ((.int .i64))] [.val (.bool)] (m, c, ()) = r5classN fuel m c := by kernel_rfl
theorem r5classO : FOk Try.prog 30 r5classS := fok (G := r5classG) (fn := Try.f30) (A := r5classA) (ctxOk (by kernel_rfl) (by kernel_rfl) ⟨r5goodO, rtypesO, r5fieldsO, rsubO, trivial⟩) Try.func30 (by kernel_rfl) (by kernel_rfl) fun z r _ h => (r5class_ok _ _ r h).elim fun k hk => ⟨k, (r5classE k z.1 z.2.1).trans hk⟩
def r5namedG : Ctx := { ty := [(3, (.int .i64)), (22, tyStyTCl), (23, tyStyTTp), (24, tySi32), (25, tyStyTMt), (26, tySi64), (28, tyTIm), (36, tyStyTIns), (38, tyTMt), (41, tyTIns), (44, tyTCl)], fns := [(91, r5fieldsS)], tips := [], n := 105, bxs := [3, 4, 5], ptrs := [] }
def r5namedA : Ann := ⟨[], [(4, (2, [.val 17 (.bool) false])), (7, (2, [.val 30 (.bool) false])), (10, (2, [.val 39 (.bool) false])), (13, (2, [.val 48 (.bool) false])), (16, (2, [.val 67 (.bool) false]))], [(15, [[], [], [0, 1], [0, 1], [0, 1], [], [], [], [], [7, 8], [7, 8, 9], [7, 8, 9], [7, 8], [7, 8], [], [], []]), (22, [[], [], [0, 1], [0, 1], [0, 1], [], [], [], [], [7, 8], [7, 8], [7, 8, 9, 10], [7, 8, 9, 10], [7, 8], [7, 8], [7, 8], [7, 8], [], [], []])], []⟩
theorem r5namedE (fuel : Nat) (m : Im) (x : Mt) (i : Ins) : fnRun r5namedG r5namedA fuel Try.f93 [.val (tyTIm), .val (tyTMt), .val (tyTIns)] [.val (.bool)] (m, x, i, ()) = r5namedN m x i := by kernel_rfl
theorem r5namedO : FOk Try.prog 93 r5namedS := fok (G := r5namedG) (fn := Try.f93) (A := r5namedA) (ctxOk (by kernel_rfl) (by kernel_rfl) ⟨r5fieldsO, trivial⟩) Try.func93 (by kernel_rfl) (by kernel_rfl) fun z r _ h => ⟨0, (r5namedE 0 z.1 z.2.1 z.2.2.1).trans (r5named_ok _ _ _ r h)⟩
def r5methodG : Ctx := { ty := [(22, tyStyTCl), (23, tyStyTTp), (26, tySi64), (28, tyTIm), (35, tyTTp), (36, tyStyTIns), (38, tyTMt), (41, tyTIns)], fns := [(29, r5goodS), (90, rgoodS), (93, r5namedS)], tips := [], n := 74, bxs := [2, 3], ptrs := [] }
def r5methodA : Ann := ⟨[(4, (4, [.val 5 ((.int .i64)) false]))], [(1, (2, []))], [(6, [[], [0], [0, 1], [0, 1], [0, 1, 2, 3], [0, 1], [0, 1], [], []])], []⟩
theorem r5methodE (fuel : Nat) (m : Im) (x : Mt) : fnRun r5methodG r5methodA fuel Try.f31 [.val (tyTIm), .val (tyTMt)] [.val (.bool)] (m, x, ()) = r5methodN fuel m x := by kernel_rfl
theorem r5methodO : FOk Try.prog 31 r5methodS := fok (G := r5methodG) (fn := Try.f31) (A := r5methodA) (ctxOk (by kernel_rfl) (by kernel_rfl) ⟨r5goodO, rgoodO, r5namedO, trivial⟩) Try.func31 (by kernel_rfl) (by kernel_rfl) fun z r _ h => (r5method_ok _ _ r h).elim fun k hk => ⟨k, (r5methodE k z.1 z.2.1).trans hk⟩
def r5saneG : Ctx := { ty := [(3, (.int .i64)), (22, tyStyTCl), (23, tyStyTTp), (25, tyStyTMt), (26, tySi64), (28, tyTIm), (35, tyTTp), (38, tyTMt)], fns := [(18, r5fitsS), (29, r5goodS), (30, r5classS), (31, r5methodS)], tips := [], n := 111, bxs := [1], ptrs := [] }
def r5saneA : Ann := ⟨[(5, (3, [.val 3 (.bool) false, .val 4 ((.int .i64)) false])), (9, (3, [.val 3 (.bool) false, .val 5 ((.int .i64)) false])), (13, (10, [.val 3 (.bool) false, .val 6 ((.int .i64)) false])), (20, (3, [.val 3 (.bool) false, .val 8 ((.int .i64)) false]))], [(4, (4, [.val 3 (.bool) false])), (8, (4, [.val 3 (.bool) false])), (18, (1, [.val 3 (.bool) false]))], [(11, [[], [0], [0], [0, 1, 2], [0], [0], [], []])], []⟩
theorem r5saneE (fuel : Nat) (m : Im) : fnRun r5saneG r5saneA fuel Try.f14 [.val (tyTIm)] [.val ((.int .i64))] (m, ()) = r5saneN fuel m := by kernel_rfl
theorem r5saneO : FOk Try.prog 14 r5saneS := fok (G := r5saneG) (fn := Try.f14) (A := r5saneA) (ctxOk (by kernel_rfl) (by kernel_rfl) ⟨r5fitsO, r5goodO, r5classO, r5methodO, trivial⟩) Try.func14 (by kernel_rfl) (by kernel_rfl) fun z r hl h => (r5sane_eq _ hl).elim fun k hk => ⟨k, (r5saneE k z.1).trans (hk.trans h)⟩
def sinG : Ctx := { ty := [], fns := [], tips := [], n := 12, bxs := [], ptrs := [] }
def sinA : Ann := ⟨[], [], [], []⟩
theorem sinE (fuel : Nat) (n : Int) (c : Int) : fnRun sinG sinA fuel Try.f82 [.val ((.int .i64)), .val ((.int .i64))] [.val (.bool)] (n, c, ()) = sinN n c := by kernel_rfl
theorem sinO : FOk Try.prog 82 sinS := fok (G := sinG) (fn := Try.f82) (A := sinA) (ctxOk (by kernel_rfl) (by kernel_rfl) trivial) Try.func82 (by kernel_rfl) (by kernel_rfl) fun z r _ h => ⟨0, (sinE 0 z.1 z.2.1).trans ((sin_eq _ _).trans h)⟩
def sallG : Ctx := { ty := [(22, tyStyTCl), (23, tyStyTTp), (28, tyTIm), (35, tyTTp), (103, tyStyStyTTp)], fns := [(80, kgoodS)], tips := [], n := 29, bxs := [2, 8], ptrs := [] }
def sallA : Ann := ⟨[(2, (9, [.val 11 ((.int .i64)) false])), (5, (5, [.val 17 ((.int .i64)) false]))], [], [], []⟩
theorem sallE (fuel : Nat) (m : Im) (l : List (List Tp)) : fnRun sallG sallA fuel Try.f25 [.val (tyTIm), .val (tyStyStyTTp)] [.val (.bool)] (m, l, ()) = sallN fuel m l := by kernel_rfl
theorem sallO : FOk Try.prog 25 sallS := fok (G := sallG) (fn := Try.f25) (A := sallA) (ctxOk (by kernel_rfl) (by kernel_rfl) ⟨kgoodO, trivial⟩) Try.func25 (by kernel_rfl) (by kernel_rfl) fun z r hl h => (sall_eq _ _ hl).elim fun k hk => ⟨k, (sallE k z.1 z.2.1).trans (hk.trans h)⟩
def saboveG : Ctx := { ty := [(3, (.int .i64)), (22, tyStyTCl), (23, tyStyTTp), (26, tySi64), (28, tyTIm), (44, tyTCl)], fns := [], tips := [], n := 47, bxs := [2], ptrs := [] }
def saboveA : Ann := ⟨[(5, (3, [.val 4 ((.int .i64)) false, .val 7 ((.int .i64)) false]))], [(1, (3, [.val 5 (tySi64) false]))], [], []⟩
theorem saboveE (fuel : Nat) (m : Im) (c : Int) : fnRun saboveG saboveA fuel Try.f81 [.val (tyTIm), .val ((.int .i64))] [.val ((.int .i64)), .val (tySi64)] (m, c, ()) = saboveN fuel m c := by kernel_rfl
theorem saboveO : FOk Try.prog 81 saboveS := fok (G := saboveG) (fn := Try.f81) (A := saboveA) (ctxOk (by kernel_rfl) (by kernel_rfl) trivial) Try.func81 (by kernel_rfl) (by kernel_rfl) fun z r _ h => (sabove_ok _ _ r h).elim fun k hk => ⟨k, (saboveE k z.1 z.2.1).trans hk⟩
def sfitsG : Ctx := { ty := [(22, tyStyTCl), (23, tyStyTTp), (25, tyStyTMt), (28, tyTIm), (35, tyTTp), (38, tyTMt)], fns := [(116, ksubS)], tips := [], n := 28, bxs := [3, 7], ptrs := [] }
def sfitsA : Ann := ⟨[], [], [(2, [[], [], [], [], [], [], [], [5, 6], [5, 6], [5, 6, 7, 8], [5, 6, 7, 8], [5, 6, 7, 8], [5, 6, 7, 8], [], [], []])], []⟩
theorem sfitsE (fuel : Nat) (m : Im) (c : Int) (f : Int) : fnRun sfitsG sfitsA fuel Try.f83 [.val (tyTIm), .val ((.int .i64)), .val ((.int .i64))] [.val (.bool)] (m, c, f, ()) = sfitsN m c f := by kernel_rfl
theorem sfitsO : FOk Try.prog 83 sfitsS := fok (G := sfitsG) (fn := Try.f83) (A := sfitsA) (ctxOk (by kernel_rfl) (by kernel_rfl) ⟨ksubO, trivial⟩) Try.func83 (by kernel_rfl) (by kernel_rfl) fun z r _ h => ⟨0, (sfitsE 0 z.1 z.2.1 z.2.2.1).trans (sfits_ok _ _ _ r h)⟩
def salikeG : Ctx := { ty := [(23, tyStyTTp), (35, tyTTp), (38, tyTMt)], fns := [(77, eqTS)], tips := [], n := 31, bxs := [2, 3], ptrs := [] }
def salikeA : Ann := ⟨[], [], [(1, [[], [], [], [], [], [], [], [], [], [], [], [], [], [], [11, 12, 13], [11, 12, 13], [11, 12, 13], [], [], [], [], [], [20, 21], [20, 21], [], [], []])], []⟩
theorem salikeE (fuel : Nat) (a : Mt) (b : Mt) : fnRun salikeG salikeA fuel Try.f84 [.val (tyTMt), .val (tyTMt)] [.val (.bool)] (a, b, ()) = salikeN a b := by kernel_rfl
theorem salikeO : FOk Try.prog 84 salikeS := fok (G := salikeG) (fn := Try.f84) (A := salikeA) (ctxOk (by kernel_rfl) (by kernel_rfl) ⟨eqTO, trivial⟩) Try.func84 (by kernel_rfl) (by kernel_rfl) fun z r _ h => ⟨0, (salikeE 0 z.1 z.2.1).trans ((salike_eq _ _).trans h)⟩
def sclassG : Ctx := { ty := [(3, (.int .i64)), (22, tyStyTCl), (23, tyStyTTp), (25, tyStyTMt), (26, tySi64), (28, tyTIm), (38, tyTMt), (44, tyTCl), (103, tyStyStyTTp)], fns := [(25, sallS), (81, saboveS), (82, sinS), (83, sfitsS), (84, salikeS)], tips := [], n := 92, bxs := [2, 5], ptrs := [] }
def sclassA : Ann := ⟨[(8, (5, [.val 50 ((.int .i64)) false]))], [], [(10, [[], [0], [0], [0], [], [], [], [], [7], [7, 8], [], [], [], [], [], [14], [14], [], [], [], [], [19, 20], [], [], [19, 20, 21, 22, 23], [19, 20, 21, 22, 23], [19, 20, 21, 22, 23, 24, 25], [19, 20, 21, 22, 23, 24, 25, 26], [19, 20, 21, 22, 23, 24, 25], [19, 20, 21, 22, 23, 24, 25], [19, 20, 21, 22, 23], [19, 20, 21, 22, 23], [], [], [], []])], []⟩
theorem sclassE (fuel : Nat) (m : Im) (c : Int) : fnRun sclassG sclassA fuel Try.f26 [.val (tyTIm), .val ((.int .i64))] [.val (.bool)] (m, c, ()) = sclassN fuel m c := by kernel_rfl
theorem sclassO : FOk Try.prog 26 sclassS := fok (G := sclassG) (fn := Try.f26) (A := sclassA) (ctxOk (by kernel_rfl) (by kernel_rfl) ⟨sallO, saboveO, sinO, sfitsO, salikeO, trivial⟩) Try.func26 (by kernel_rfl) (by kernel_rfl) fun z r _ h => (sclass_ok _ _ r h).elim fun k hk => ⟨k, (sclassE k z.1 z.2.1).trans hk⟩
def sfieldsG : Ctx := { ty := [(22, tyStyTCl), (23, tyStyTTp), (28, tyTIm), (44, tyTCl)], fns := [(81, saboveS)], tips := [], n := 21, bxs := [], ptrs := [] }
def sfieldsA : Ann := ⟨[], [], [], []⟩
theorem sfieldsE (fuel : Nat) (c : Int) (m : Im) : fnRun sfieldsG sfieldsA fuel Try.f85 [.val ((.int .i64)), .cap (tyTIm)] [.val ((.int .i64))] (c, m, ()) = sfieldsN c m := by kernel_rfl
theorem sfieldsO : FOk Try.prog 85 sfieldsS := fok (G := sfieldsG) (fn := Try.f85) (A := sfieldsA) (ctxOk (by kernel_rfl) (by kernel_rfl) ⟨saboveO, trivial⟩) Try.func85 (by kernel_rfl) (by kernel_rfl) fun z r _ h => ⟨0, (sfieldsE 0 z.1 z.2.1).trans (sfields_ok _ _ r h)⟩
def sinstrG : Ctx := { ty := [(3, (.int .i64)), (22, tyStyTCl), (23, tyStyTTp), (24, tySi32), (25, tyStyTMt), (26, tySi64), (28, tyTIm), (36, tyStyTIns), (38, tyTMt), (41, tyTIns), (44, tyTCl)], fns := [(82, sinS), (85, sfieldsS)], tips := [], n := 106, bxs := [4, 5, 6], ptrs := [] }
def sinstrA : Ann := ⟨[], [(4, (2, [.val 19 (.bool) false])), (7, (2, [.val 32 (.bool) false])), (10, (2, [.val 41 (.bool) false])), (13, (2, [.val 50 (.bool) false])), (16, (2, [.val 68 (.bool) false]))], [(15, [[], [], [0, 1], [0, 1], [0, 1], [], [], [], [], [7, 8], [7, 8, 9], [7, 8, 9], [7, 8], [], [], []]), (22, [[], [], [0, 1], [0, 1], [0, 1], [], [], [], [], [7, 8], [7, 8], [7, 8, 9, 10], [7, 8, 9, 10], [7, 8], [7, 8], [7, 8], [7, 8], [], [], []])], []⟩
theorem sinstrE (fuel : Nat) (m : Im) (x : Mt) (i : Ins) (f : Im × Unit) : fnRun sinstrG sinstrA fuel Try.f86 [.val (tyTIm), .val (tyTMt), .val (tyTIns), .val ((.clo 85 (.pair tyTIm .unit)))] [.val (.bool)] (m, x, i, f, ()) = sinstrN m x i f := by kernel_rfl
theorem sinstrO : FOk Try.prog 86 sinstrS := fok (G := sinstrG) (fn := Try.f86) (A := sinstrA) (ctxOk (by kernel_rfl) (by kernel_rfl) ⟨sinO, sfieldsO, trivial⟩) Try.func86 (by kernel_rfl) (by kernel_rfl) fun z r _ h => ⟨0, (sinstrE 0 z.1 z.2.1 z.2.2.1 z.2.2.2.1).trans (sinstr_ok _ _ _ _ r h)⟩
def smethodG : Ctx := { ty := [(23, tyStyTTp), (26, tySi64), (28, tyTIm), (35, tyTTp), (36, tyStyTIns), (38, tyTMt), (41, tyTIns), (103, tyStyStyTTp)], fns := [(25, sallS), (87000086, sinstrS)], tips := [], n := 69, bxs := [2, 3, 7], ptrs := [] }
def smethodA : Ann := ⟨[(7, (5, [.val 58 ((.int .i64)) false]))], [(1, (2, []))], [], []⟩
theorem smethodE (fuel : Nat) (m : Im) (x : Mt) : fnRun smethodG smethodA fuel Try.f27 [.val (tyTIm), .val (tyTMt)] [.val (.bool)] (m, x, ()) = smethodN fuel m x := by kernel_rfl
theorem smethodO : FOk Try.prog 27 smethodS := fok (G := smethodG) (fn := Try.f27) (A := smethodA) (ctxOk (by kernel_rfl) (by kernel_rfl) ⟨sallO, sinstrO, trivial⟩) Try.func27 (by kernel_rfl) (by kernel_rfl) fun z r _ h => (smethod_ok _ _ r h).elim fun k hk => ⟨k, (smethodE k z.1 z.2.1).trans hk⟩
def sentryG : Ctx := { ty := [(3, (.int .i64)), (23, tyStyTTp), (25, tyStyTMt), (28, tyTIm), (35, tyTTp), (38, tyTMt), (71, .any)], fns := [(82, sinS), (87, sentry1S), (91000088, containsEntryS)], tips := [], n := 35, bxs := [2, 5, 6], ptrs := [] }
def sentryA : Ann := ⟨[], [], [], []⟩
theorem sentryE (fuel : Nat) (m : Im) (f : Int) : fnRun sentryG sentryA fuel Try.f28 [.val (tyTIm), .val ((.int .i64))] [.val (.bool)] (m, f, ()) = sentryN m f := by kernel_rfl
theorem sentryO : FOk Try.prog 28 sentryS := fok (G := sentryG) (fn := Try.f28) (A := sentryA) (ctxOk (by kernel_rfl) (by kernel_rfl) ⟨sinO, sentry1O, containsEntryO, trivial⟩) Try.func28 (by kernel_rfl) (by kernel_rfl) fun z r _ h => ⟨0, (sentryE 0 z.1 z.2.1).trans (sentry_ok _ _ r h)⟩
def scheckG : Ctx := { ty := [(3, (.int .i64)), (22, tyStyTCl), (23, tyStyTTp), (25, tyStyTMt), (26, tySi64), (28, tyTIm), (38, tyTMt), (103, tyStyStyTTp)], fns := [(19, ifitsS), (25, sallS), (26, sclassS), (27, smethodS), (28, sentryS)], tips := [], n := 52, bxs := [1, 5], ptrs := [] }
def scheckA : Ann := ⟨[(6, (5, [.val 20 ((.int .i64)) false])), (12, (5, [.val 31 ((.int .i64)) false])), (18, (5, [.val 43 ((.int .i64)) false]))], [], [], []⟩
theorem scheckE (fuel : Nat) (m : Im) : fnRun scheckG scheckA fuel Try.f13 [.val (tyTIm)] [.val ((.int .i64))] (m, ()) = scheckN fuel m := by kernel_rfl
theorem scheckO : FOk Try.prog 13 scheckS := fok (G := scheckG) (fn := Try.f13) (A := scheckA) (ctxOk (by kernel_rfl) (by kernel_rfl) ⟨ifitsO, sallO, sclassO, smethodO, sentryO, trivial⟩) Try.func13 (by kernel_rfl) (by kernel_rfl) fun z r hl h => (scheck_eq _ hl).elim fun k hk => ⟨k, (scheckE k z.1).trans (hk.trans h)⟩
def awake6G : Ctx := { ty := [(25, tyStyTMt), (26, tySi64), (28, tyTIm), (35, tyTTp), (36, tyStyTIns), (38, tyTMt), (41, tyTIns)], fns := [(13, scheckS), (18, r5fitsS)], tips := [], n := 31, bxs := [1], ptrs := [] }
def awake6A : Ann := ⟨[], [], [], []⟩
theorem awake6E (fuel : Nat) : fnRun awake6G awake6A fuel Try.f12 [] [.val (.bool)] () = awake6N := by kernel_rfl
theorem awake6O : FOk Try.prog 12 awake6S := fok (G := awake6G) (fn := Try.f12) (A := awake6A) (ctxOk (by kernel_rfl) (by kernel_rfl) ⟨scheckO, r5fitsO, trivial⟩) Try.func12 (by kernel_rfl) (by kernel_rfl) fun z r _ h => ⟨0, (awake6E 0).trans h⟩
def small6G : Ctx := { ty := [(22, tyStyTCl), (23, tyStyTTp), (24, tySi32), (25, tyStyTMt), (26, tySi64), (28, tyTIm), (36, tyStyTIns), (38, tyTMt)], fns := [], tips := [], n := 53, bxs := [1, 4], ptrs := [] }
def small6A : Ann := ⟨[(4, (5, [.val 3 ((.int .i64)) false]))], [], [], []⟩
theorem small6E (fuel : Nat) (m : Im) : fnRun small6G small6A fuel Try.f11 [.val (tyTIm)] [.val (.bool)] (m, ()) = small6N fuel m := by kernel_rfl
theorem small6O : FOk Try.prog 11 small6S := fok (G := small6G) (fn := Try.f11) (A := small6A) (ctxOk (by kernel_rfl) (by kernel_rfl) trivial) Try.func11 (by kernel_rfl) (by kernel_rfl) fun z r hl h => (small6_eq _ hl).elim fun k hk => ⟨k, (small6E k z.1).trans (hk.trans h)⟩
end Go.Pli
