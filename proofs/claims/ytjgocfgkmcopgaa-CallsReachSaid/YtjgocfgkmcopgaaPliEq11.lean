import Derived.Test.YtjgocfgkmcopgaaPliLaw06
import Derived.Test.YtjgocfgkmcopgaaPMSort
import Derived.Test.YtjgocfgkmcopgaaPliLib11
import Derived.Test.YtjgocfgkmcopgaaPMKit
import Derived.Test.YtjgocfgkmcopgaaPMSaid
import Derived.Test.YtjgocfgkmcopgaaProg
import Derived.KernelRfl
namespace Go.Pli
open Go Go.PM

open Go.Proofs
abbrev tySi64 : Ty := .sl 3 (.int .i64)
abbrev tyTTp : Ty := .pair (.int .i64) (.pair (.int .i64) .unit)
abbrev tyTIns : Ty := .pair (.int .i64) tyTTp
abbrev tyStyTTp : Ty := .sl 52 tyTTp
abbrev tyTCl : Ty := .pair (.int .i64) (.pair tyStyTTp (.pair tySi64 .unit))
abbrev tyStyTCl : Ty := .sl 94 tyTCl
abbrev tySi32 : Ty := .sl 21 (.int .i32)
abbrev tyStyTIns : Ty := .sl 54 tyTIns
abbrev tyTMt : Ty := .pair tyStyTTp (.pair tyStyTTp (.pair tyTTp (.pair tyStyTIns (.pair (.int .i64) (.pair (.int .i64) (.pair tySi64 .unit))))))
abbrev tyStyTMt : Ty := .sl 57 tyTMt
abbrev tyTIm : Ty := .pair tyStyTCl (.pair tyStyTTp (.pair tySi32 (.pair tyStyTMt (.pair tySi64 tyTTp))))
abbrev tyStySi64 : Ty := .sl 26 tySi64
abbrev tySbool : Ty := .sl 4 .bool
abbrev tyStySbool : Ty := .sl 38 tySbool
def rinS : FSpec := ⟨[.val (tySi64), .val ((.int .i64))], [.val (.bool)], fun z => rin z.1 z.2.1⟩
def rargsS : FSpec := ⟨[.val ((.int .i64))], [.val ((.int .i64))], fun z => some (rargs z.1, ())⟩
def rinstrS : FSpec := ⟨[.val (tyTIns)], [.val (.bool)], fun z => some (rinstr z.1, ())⟩
def clipIS : FSpec := ⟨[.val (tySi64)], [.val (tySi64)], fun z => some (idL z.1, ())⟩
def kupS : FSpec := ⟨[.val (tyStyTCl), .val ((.int .i64))], [.val ((.int .i64))], fun z => some (kup z.1 z.2.1, ())⟩
def kbelowS : FSpec := ⟨[.val (tyStyTCl), .val ((.int .i64)), .val ((.int .i64))], [.val (.bool)], fun z => some (kbelow z.1 z.2.1 z.2.2.1, ())⟩
def raboveS : FSpec := ⟨[.val (tyStyTCl), .val ((.int .i64))], [.val (tySi64)], fun z => rabove z.1 z.2.1⟩
def risrefS : FSpec := ⟨[.val (tyTTp)], [.val (.bool)], fun z => some (risref z.1, ())⟩
def rgoodS : FSpec := ⟨[.val (tyTTp), .val ((.int .i64))], [.val (.bool)], fun z => some (rgood z.1 z.2.1, ())⟩
def rsubS : FSpec := ⟨[.val (tyStyTCl), .val (tyTTp), .val (tyTTp)], [.val (.bool)], fun z => rsub z.1 z.2.1 z.2.2.1⟩
def rtypesS : FSpec := ⟨[.val (tyStyTTp), .val (tyStyTTp)], [.val (.bool)], fun z => some (rtypes z.1 z.2.1, ())⟩
def rintsS : FSpec := ⟨[.val (tySi64), .val (tySi64)], [.val (.bool)], fun z => some (rints z.1 z.2.1, ())⟩
def r5inS : FSpec := ⟨[.val ((.int .i64)), .val ((.int .i64)), .val ((.int .i64))], [.val (.bool)], fun z => some (r5in z.1 z.2.1 z.2.2.1, ())⟩
def r5listS : FSpec := ⟨[.val (tySi64), .val ((.int .i64)), .val ((.int .i64))], [.val (.bool)], fun z => some (r5list z.1 z.2.1 z.2.2.1, ())⟩
def r5typS : FSpec := ⟨[.val (tyTTp)], [.val (.bool)], fun z => some (r5typ z.1, ())⟩
def r5typesS : FSpec := ⟨[.val (tyStyTTp), .val ((.int .i64))], [.val (.bool)], fun z => some (r5types z.1 z.2.1, ())⟩
def r5fitsS : FSpec := ⟨[.val (tyTIm)], [.val (.bool)], fun z => some (r5fits z.1, ())⟩
def r5fieldsS : FSpec := ⟨[.val (tyTIm), .val ((.int .i64))], [.tip (tyStyTTp)], fun z => r5fields z.1 z.2.1⟩
def r5goodS : FSpec := ⟨[.val (tyTIm), .val (tyStyTTp)], [.val (.bool)], fun z => some (r5good z.1 z.2.1, ())⟩
def r5classS : FSpec := ⟨[.val (tyTIm), .val ((.int .i64))], [.val (.bool)], fun z => r5class z.1 z.2.1⟩
def r5namedS : FSpec := ⟨[.val (tyTIm), .val (tyTMt), .val (tyTIns)], [.val (.bool)], fun z => r5named z.1 z.2.1 z.2.2.1⟩
def r5methodS : FSpec := ⟨[.val (tyTIm), .val (tyTMt)], [.val (.bool)], fun z => r5method z.1 z.2.1⟩
def r5saneS : FSpec := ⟨[.val (tyTIm)], [.val ((.int .i64))], fun z => some (r5sane z.1, ())⟩
def sortIS : FSpec := ⟨[.own 3 ((.int .i64))], [], fun z => some (sortI z.1)⟩
def compactIS : FSpec := ⟨[.take 3 ((.int .i64))], [.own 3 ((.int .i64))], fun z => some (compactI z.1, ())⟩
def cbelowS : FSpec := ⟨[.val (tyTIm), .val ((.int .i64))], [.val (tySi64)], fun z => cbelow z.1 z.2.1⟩
def cslotS : FSpec := ⟨[.val (tyTIm), .val ((.int .i64)), .val ((.int .i64))], [.val ((.int .i64)), .val (.bool)], fun z => some (cslot z.1 z.2.1 z.2.2.1)⟩
def ctargetsS : FSpec := ⟨[.val (tyTIm), .val (tyTIns)], [.tip (tySi64)], fun z => ctargets z.1 z.2.1⟩
def cofS : FSpec := ⟨[.val (tyTIm), .val ((.int .i64))], [.val (tySi64)], fun z => cof z.1 z.2.1⟩
def creachS : FSpec := ⟨[.val (tyTIm), .val ((.int .i64))], [.val (tySi64)], fun z => creach z.1 z.2.1⟩
def r5belowS : FSpec := ⟨[.val (tyTIm), .val ((.int .i64))], [.tip (tySi64)], fun z => r5below z.1 z.2.1⟩
def r5slotS : FSpec := ⟨[.val (tyTIm), .val ((.int .i64)), .val ((.int .i64))], [.val ((.int .i64)), .val (.bool)], fun z => some (r5slot z.1 z.2.1 z.2.2.1)⟩
def r8targetsS : FSpec := ⟨[.val (tyTIm), .val (tyTIns)], [.tip (tySi64)], fun z => r8targets z.1 z.2.1⟩
def r8callsS : FSpec := ⟨[.val (tyTIm), .val ((.int .i64)), .val ((.int .i64))], [.val (.bool)], fun z => r8calls z.1 z.2.1 z.2.2.1⟩
def r8edgesS : FSpec := ⟨[.val (tyTIm)], [.val (tyStySi64)], fun z => r8edges z.1⟩
def r8waysS : FSpec := ⟨[.val (tyStySi64)], [.val (tyStySbool)], fun z => r8ways z.1⟩
def sane11S : FSpec := ⟨[.val (tyTIm)], [.val (.bool)], fun z => some (sane11 z.1, ())⟩
def awake11S : FSpec := ⟨[], [.val (.bool)], fun _ => awake11N⟩
def callsOfT : List Ty := [tyTIm, (.int .i64)]
noncomputable def callsOfS : FSpec := ⟨[.val (tyTIm), .val ((.int .i64))], [.val (.bool)], fun z => @ite _ (WfAll Try.prog callsOfT z) (Classical.propDecidable _) (some (true, ())) none⟩
def callsClosedT : List Ty := [tyTIm]
noncomputable def callsClosedS : FSpec := ⟨[.val (tyTIm)], [.val (.bool)], fun z => @ite _ (WfAll Try.prog callsClosedT z) (Classical.propDecidable _) (some (true, ())) none⟩
def callsReachT : List Ty := [tyTIm]
noncomputable def callsReachS : FSpec := ⟨[.val (tyTIm)], [.val (.bool)], fun z => @ite _ (WfAll Try.prog callsReachT z) (Classical.propDecidable _) (some (true, ())) none⟩
theorem sortIO : FOk Try.prog 27 sortIS := sort_fok 3 ⟨_, Try.func27, by kernel_rfl, by kernel_rfl⟩ Try.slices_Sort_int Try.slices_Sort_int_none
theorem compactIO : FOk Try.prog 29 compactIS := compact_fok 3 ⟨_, Try.func29, by kernel_rfl, by kernel_rfl⟩ Try.slices_Compact_int Try.slices_Compact_int_empty

def rinG : Ctx := { ty := [(3, (.int .i64)), (26, tySi64)], fns := [], tips := [], n := 18, bxs := [], ptrs := [] }
def rinA : Ann := ⟨[(2, (4, [.val 5 ((.int .i64)) false]))], [], [], []⟩
theorem rinE (fuel : Nat) (l : List Int) (x : Int) : fnRun rinG rinA fuel Try.f16 [.val (tySi64), .val ((.int .i64))] [.val (.bool)] (l, x, ()) = rinN fuel l x := by kernel_rfl
theorem rinO : FOk Try.prog 16 rinS := fok (G := rinG) (fn := Try.f16) (A := rinA) (ctxOk (by kernel_rfl) (by kernel_rfl) trivial) Try.func16 (by kernel_rfl) (by kernel_rfl) fun z r _ h => (rin_ok _ _ r h).elim fun k hk => ⟨k, (rinE k z.1 z.2.1).trans hk⟩

def rargsG : Ctx := { ty := [(26, tySi64)], fns := [(16, rinS)], tips := [], n := 24, bxs := [], ptrs := [] }
def rargsA : Ann := ⟨[], [], [], []⟩
theorem rargsE (fuel : Nat) (o : Int) : fnRun rargsG rargsA fuel Try.f81 [.val ((.int .i64))] [.val ((.int .i64))] (o, ()) = rargsN o := by kernel_rfl
theorem rargsO : FOk Try.prog 81 rargsS := fok (G := rargsG) (fn := Try.f81) (A := rargsA) (ctxOk (by kernel_rfl) (by kernel_rfl) ⟨rinO, trivial⟩) Try.func81 (by kernel_rfl) (by kernel_rfl) fun z r _ h => ⟨0, (rargsE 0 z.1).trans ((rargs_eq _).trans h)⟩

def rinstrG : Ctx := { ty := [(3, (.int .i64)), (54, tyTIns)], fns := [(81, rargsS)], tips := [], n := 45, bxs := [1], ptrs := [] }
def rinstrA : Ann := ⟨[], [(2, (2, []))], [], []⟩
theorem rinstrE (fuel : Nat) (i : Ins) : fnRun rinstrG rinstrA fuel Try.f58 [.val (tyTIns)] [.val (.bool)] (i, ()) = rinstrN i := by kernel_rfl
theorem rinstrO : FOk Try.prog 58 rinstrS := fok (G := rinstrG) (fn := Try.f58) (A := rinstrA) (ctxOk (by kernel_rfl) (by kernel_rfl) ⟨rargsO, trivial⟩) Try.func58 (by kernel_rfl) (by kernel_rfl) fun z r _ h => ⟨0, (rinstrE 0 z.1).trans ((rinstr_eq _).trans h)⟩

def clipIG : Ctx := { ty := [(26, tySi64)], fns := [], tips := [], n := 9, bxs := [], ptrs := [] }
def clipIA : Ann := ⟨[], [], [], []⟩
theorem clipIE (fuel : Nat) (s : List Int) : fnRun clipIG clipIA fuel Try.f28 [.val (tySi64)] [.val (tySi64)] (s, ()) = clipIN s := by kernel_rfl
theorem clipIO : FOk Try.prog 28 clipIS := fok (G := clipIG) (fn := Try.f28) (A := clipIA) (ctxOk (by kernel_rfl) (by kernel_rfl) trivial) Try.func28 (by kernel_rfl) (by kernel_rfl) fun z r _ h => ⟨0, (clipIE 0 z.1).trans ((clipI_eq _).trans h)⟩

def kupG : Ctx := { ty := [(3, (.int .i64)), (22, tyStyTCl), (94, tyTCl)], fns := [], tips := [], n := 27, bxs := [], ptrs := [] }
def kupA : Ann := ⟨[], [], [], []⟩
theorem kupE (fuel : Nat) (l : List Cl) (c : Int) : fnRun kupG kupA fuel Try.f82 [.val (tyStyTCl), .val ((.int .i64))] [.val ((.int .i64))] (l, c, ()) = kupN l c := by kernel_rfl
theorem kupO : FOk Try.prog 82 kupS := fok (G := kupG) (fn := Try.f82) (A := kupA) (ctxOk (by kernel_rfl) (by kernel_rfl) trivial) Try.func82 (by kernel_rfl) (by kernel_rfl) fun z r _ h => ⟨0, (kupE 0 z.1 z.2.1).trans ((kup_eq _ _).trans h)⟩

def kbelowG : Ctx := { ty := [(22, tyStyTCl)], fns := [(82, kupS)], tips := [], n := 29, bxs := [], ptrs := [] }
def kbelowA : Ann := ⟨[(3, (4, [.val 1 ((.int .i64)) false]))], [], [], []⟩
theorem kbelowE (fuel : Nat) (l : List Cl) (a : Int) (b : Int) : fnRun kbelowG kbelowA fuel Try.f63 [.val (tyStyTCl), .val ((.int .i64)), .val ((.int .i64))] [.val (.bool)] (l, a, b, ()) = kbelowN fuel l a b := by kernel_rfl
theorem kbelowO : FOk Try.prog 63 kbelowS := fok (G := kbelowG) (fn := Try.f63) (A := kbelowA) (ctxOk (by kernel_rfl) (by kernel_rfl) ⟨kupO, trivial⟩) Try.func63 (by kernel_rfl) (by kernel_rfl) fun z r _ h => (kbelow_eq _ _ _).elim fun k hk => ⟨k, (kbelowE k z.1 z.2.1 z.2.2.1).trans (hk.trans h)⟩

def raboveG : Ctx := { ty := [(3, (.int .i64)), (22, tyStyTCl), (26, tySi64), (94, tyTCl)], fns := [], tips := [16], n := 30, bxs := [], ptrs := [] }
def raboveA : Ann := ⟨[(2, (6, [.val 1 ((.int .i64)) false, .val 5 (tySi64) true]))], [], [], []⟩
theorem raboveE (fuel : Nat) (l : List Cl) (c : Int) : fnRun raboveG raboveA fuel Try.f77 [.val (tyStyTCl), .val ((.int .i64))] [.val (tySi64)] (l, c, ()) = raboveN fuel l c := by kernel_rfl
theorem raboveO : FOk Try.prog 77 raboveS := fok (G := raboveG) (fn := Try.f77) (A := raboveA) (ctxOk (by kernel_rfl) (by kernel_rfl) trivial) Try.func77 (by kernel_rfl) (by kernel_rfl) fun z r _ h => (rabove_ok _ _ r h).elim fun k hk => ⟨k, (raboveE k z.1 z.2.1).trans hk⟩

def risrefG : Ctx := { ty := [(3, (.int .i64)), (52, tyTTp)], fns := [], tips := [], n := 16, bxs := [1], ptrs := [] }
def risrefA : Ann := ⟨[], [], [], []⟩
theorem risrefE (fuel : Nat) (t : Tp) : fnRun risrefG risrefA fuel Try.f76 [.val (tyTTp)] [.val (.bool)] (t, ()) = risrefN t := by kernel_rfl
theorem risrefO : FOk Try.prog 76 risrefS := fok (G := risrefG) (fn := Try.f76) (A := risrefA) (ctxOk (by kernel_rfl) (by kernel_rfl) trivial) Try.func76 (by kernel_rfl) (by kernel_rfl) fun z r _ h => ⟨0, (risrefE 0 z.1).trans ((risref_eq _).trans h)⟩

def rgoodG : Ctx := { ty := [(3, (.int .i64)), (52, tyTTp)], fns := [], tips := [], n := 34, bxs := [2], ptrs := [] }
def rgoodA : Ann := ⟨[], [], [], []⟩
theorem rgoodE (fuel : Nat) (t : Tp) (n : Int) : fnRun rgoodG rgoodA fuel Try.f59 [.val (tyTTp), .val ((.int .i64))] [.val (.bool)] (t, n, ()) = rgoodN t n := by kernel_rfl
theorem rgoodO : FOk Try.prog 59 rgoodS := fok (G := rgoodG) (fn := Try.f59) (A := rgoodA) (ctxOk (by kernel_rfl) (by kernel_rfl) trivial) Try.func59 (by kernel_rfl) (by kernel_rfl) fun z r _ h => ⟨0, (rgoodE 0 z.1 z.2.1).trans ((rgood_eq _ _).trans h)⟩

def rsubG : Ctx := { ty := [(3, (.int .i64)), (52, tyTTp)], fns := [(16, rinS), (76, risrefS), (77, raboveS)], tips := [], n := 40, bxs := [4, 5], ptrs := [] }
def rsubA : Ann := ⟨[], [], [(4, [[], [], [], [], [], [4], [4], [], [4, 5, 6, 7], [4, 5, 6, 7], [], [], []])], []⟩
theorem rsubE (fuel : Nat) (l : List Cl) (a : Tp) (b : Tp) : fnRun rsubG rsubA fuel Try.f61 [.val (tyStyTCl), .val (tyTTp), .val (tyTTp)] [.val (.bool)] (l, a, b, ()) = rsubN l a b := by kernel_rfl
theorem rsubO : FOk Try.prog 61 rsubS := fok (G := rsubG) (fn := Try.f61) (A := rsubA) (ctxOk (by kernel_rfl) (by kernel_rfl) ⟨rinO, risrefO, raboveO, trivial⟩) Try.func61 (by kernel_rfl) (by kernel_rfl) fun z r _ h => ⟨0, (rsubE 0 z.1 z.2.1 z.2.2.1).trans (rsub_ok _ _ _ r h)⟩

def rtypesG : Ctx := { ty := [(23, tyStyTTp), (52, tyTTp)], fns := [], tips := [], n := 26, bxs := [], ptrs := [] }
def rtypesA : Ann := ⟨[(4, (4, [.val 5 ((.int .i64)) false]))], [], [(6, [[], [0], [], [], [0, 1, 2, 3], [0, 1, 2, 3, 4], [0, 1, 2, 3], [0, 1, 2, 3], []])], []⟩
theorem rtypesE (fuel : Nat) (a : List Tp) (b : List Tp) : fnRun rtypesG rtypesA fuel Try.f46 [.val (tyStyTTp), .val (tyStyTTp)] [.val (.bool)] (a, b, ()) = rtypesN fuel a b := by kernel_rfl
theorem rtypesO : FOk Try.prog 46 rtypesS := fok (G := rtypesG) (fn := Try.f46) (A := rtypesA) (ctxOk (by kernel_rfl) (by kernel_rfl) trivial) Try.func46 (by kernel_rfl) (by kernel_rfl) fun z r hl h => (rtypes_eq _ _ hl).elim fun k hk => ⟨k, (rtypesE k z.1 z.2.1).trans (hk.trans h)⟩

def rintsG : Ctx := { ty := [(3, (.int .i64)), (26, tySi64)], fns := [], tips := [], n := 26, bxs := [], ptrs := [] }
def rintsA : Ann := ⟨[(4, (4, [.val 5 ((.int .i64)) false]))], [], [(6, [[], [0], [], [], [0, 1, 2, 3], [0, 1, 2, 3, 4], [0, 1, 2, 3], [0, 1, 2, 3], []])], []⟩
theorem rintsE (fuel : Nat) (a : List Int) (b : List Int) : fnRun rintsG rintsA fuel Try.f12 [.val (tySi64), .val (tySi64)] [.val (.bool)] (a, b, ()) = rintsN fuel a b := by kernel_rfl
theorem rintsO : FOk Try.prog 12 rintsS := fok (G := rintsG) (fn := Try.f12) (A := rintsA) (ctxOk (by kernel_rfl) (by kernel_rfl) trivial) Try.func12 (by kernel_rfl) (by kernel_rfl) fun z r hl h => (rints_eq _ _ hl).elim fun k hk => ⟨k, (rintsE k z.1 z.2.1).trans (hk.trans h)⟩

def r5inG : Ctx := { ty := [], fns := [], tips := [], n := 15, bxs := [], ptrs := [] }
def r5inA : Ann := ⟨[], [], [], []⟩
theorem r5inE (fuel : Nat) (n : Int) (a : Int) (b : Int) : fnRun r5inG r5inA fuel Try.f56 [.val ((.int .i64)), .val ((.int .i64)), .val ((.int .i64))] [.val (.bool)] (n, a, b, ()) = r5inN n a b := by kernel_rfl
theorem r5inO : FOk Try.prog 56 r5inS := fok (G := r5inG) (fn := Try.f56) (A := r5inA) (ctxOk (by kernel_rfl) (by kernel_rfl) trivial) Try.func56 (by kernel_rfl) (by kernel_rfl) fun z r _ h => ⟨0, (r5inE 0 z.1 z.2.1 z.2.2.1).trans ((r5in_eq _ _ _).trans h)⟩

def r5listG : Ctx := { ty := [(3, (.int .i64)), (26, tySi64)], fns := [(56, r5inS)], tips := [], n := 25, bxs := [], ptrs := [] }
def r5listA : Ann := ⟨[(4, (4, [.val 7 ((.int .i64)) false]))], [], [], []⟩
theorem r5listE (fuel : Nat) (l : List Int) (c : Int) (m : Int) : fnRun r5listG r5listA fuel Try.f55 [.val (tySi64), .val ((.int .i64)), .val ((.int .i64))] [.val (.bool)] (l, c, m, ()) = r5listN fuel l c m := by kernel_rfl
theorem r5listO : FOk Try.prog 55 r5listS := fok (G := r5listG) (fn := Try.f55) (A := r5listA) (ctxOk (by kernel_rfl) (by kernel_rfl) ⟨r5inO, trivial⟩) Try.func55 (by kernel_rfl) (by kernel_rfl) fun z r hl h => (r5list_eq _ _ _ hl).elim fun k hk => ⟨k, (r5listE k z.1 z.2.1 z.2.2.1).trans (hk.trans h)⟩

def r5typG : Ctx := { ty := [(3, (.int .i64)), (52, tyTTp)], fns := [(56, r5inS)], tips := [], n := 21, bxs := [1], ptrs := [] }
def r5typA : Ann := ⟨[], [], [], []⟩
theorem r5typE (fuel : Nat) (t : Tp) : fnRun r5typG r5typA fuel Try.f57 [.val (tyTTp)] [.val (.bool)] (t, ()) = r5typN t := by kernel_rfl
theorem r5typO : FOk Try.prog 57 r5typS := fok (G := r5typG) (fn := Try.f57) (A := r5typA) (ctxOk (by kernel_rfl) (by kernel_rfl) ⟨r5inO, trivial⟩) Try.func57 (by kernel_rfl) (by kernel_rfl) fun z r _ h => ⟨0, (r5typE 0 z.1).trans ((r5typ_eq _).trans h)⟩

def r5typesG : Ctx := { ty := [(23, tyStyTTp), (52, tyTTp)], fns := [(57, r5typS)], tips := [], n := 22, bxs := [], ptrs := [] }
def r5typesA : Ann := ⟨[(4, (4, [.val 5 ((.int .i64)) false]))], [], [], []⟩
theorem r5typesE (fuel : Nat) (l : List Tp) (c : Int) : fnRun r5typesG r5typesA fuel Try.f54 [.val (tyStyTTp), .val ((.int .i64))] [.val (.bool)] (l, c, ()) = r5typesN fuel l c := by kernel_rfl
theorem r5typesO : FOk Try.prog 54 r5typesS := fok (G := r5typesG) (fn := Try.f54) (A := r5typesA) (ctxOk (by kernel_rfl) (by kernel_rfl) ⟨r5typO, trivial⟩) Try.func54 (by kernel_rfl) (by kernel_rfl) fun z r hl h => (r5types_eq _ _ hl).elim fun k hk => ⟨k, (r5typesE k z.1 z.2.1).trans (hk.trans h)⟩

def r5fitsG : Ctx := { ty := [(3, (.int .i64)), (22, tyStyTCl), (23, tyStyTTp), (24, tySi32), (25, tyStyTMt), (26, tySi64), (28, tyTIm), (52, tyTTp), (54, tyTIns), (55, tyStyTIns), (57, tyTMt), (94, tyTCl)], fns := [(54, r5typesS), (55, r5listS), (56, r5inS), (57, r5typS), (58, rinstrS)], tips := [], n := 142, bxs := [1, 4, 6], ptrs := [] }
def r5fitsA : Ann := ⟨[(4, (5, [.val 3 ((.int .i64)) false])), (10, (10, [.val 5 ((.int .i64)) false])), (16, (4, [.val 7 ((.int .i64)) false]))], [], [], []⟩
theorem r5fitsE (fuel : Nat) (m : Im) : fnRun r5fitsG r5fitsA fuel Try.f36 [.val (tyTIm)] [.val (.bool)] (m, ()) = r5fitsN fuel m := by kernel_rfl
theorem r5fitsO : FOk Try.prog 36 r5fitsS := fok (G := r5fitsG) (fn := Try.f36) (A := r5fitsA) (ctxOk (by kernel_rfl) (by kernel_rfl) ⟨r5typesO, r5listO, r5inO, r5typO, rinstrO, trivial⟩) Try.func36 (by kernel_rfl) (by kernel_rfl) fun z r hl h => (r5fits_eq _ hl).elim fun k hk => ⟨k, (r5fitsE k z.1).trans (hk.trans h)⟩

def r5fieldsG : Ctx := { ty := [(3, (.int .i64)), (22, tyStyTCl), (23, tyStyTTp), (26, tySi64), (28, tyTIm), (94, tyTCl)], fns := [(77, raboveS)], tips := [20, 31], n := 32, bxs := [2], ptrs := [] }
def r5fieldsA : Ann := ⟨[(4, (3, [.val 6 (tyStyTTp) true, .val 7 ((.int .i64)) false]))], [], [(6, [[], [0], [0], [0, 1, 2], [0, 1, 2, 3], [0, 1, 2], [0, 1, 2], [0], [0], [0], [], []])], []⟩
theorem r5fieldsE (fuel : Nat) (m : Im) (c : Int) : fnRun r5fieldsG r5fieldsA fuel Try.f60 [.val (tyTIm), .val ((.int .i64))] [.tip (tyStyTTp)] (m, c, ()) = r5fieldsN fuel m c := by kernel_rfl
theorem r5fieldsO : FOk Try.prog 60 r5fieldsS := fok (G := r5fieldsG) (fn := Try.f60) (A := r5fieldsA) (ctxOk (by kernel_rfl) (by kernel_rfl) ⟨raboveO, trivial⟩) Try.func60 (by kernel_rfl) (by kernel_rfl) fun z r _ h => (r5fields_ok _ _ r h).elim fun k hk => ⟨k, (r5fieldsE k z.1 z.2.1).trans hk⟩

def r5goodG : Ctx := { ty := [(22, tyStyTCl), (23, tyStyTTp), (28, tyTIm), (52, tyTTp)], fns := [(59, rgoodS)], tips := [], n := 21, bxs := [2], ptrs := [] }
def r5goodA : Ann := ⟨[(2, (4, [.val 5 ((.int .i64)) false]))], [], [(4, [[], [0], [], [], [0, 1, 2, 3], [0, 1, 2, 3], [0, 1, 2, 3], [], []])], []⟩
theorem r5goodE (fuel : Nat) (m : Im) (l : List Tp) : fnRun r5goodG r5goodA fuel Try.f37 [.val (tyTIm), .val (tyStyTTp)] [.val (.bool)] (m, l, ()) = r5goodN fuel m l := by kernel_rfl
theorem r5goodO : FOk Try.prog 37 r5goodS := fok (G := r5goodG) (fn := Try.f37) (A := r5goodA) (ctxOk (by kernel_rfl) (by kernel_rfl) ⟨rgoodO, trivial⟩) Try.func37 (by kernel_rfl) (by kernel_rfl) fun z r hl h => (r5good_eq _ _ hl).elim fun k hk => ⟨k, (r5goodE k z.1 z.2.1).trans (hk.trans h)⟩

def r5classG : Ctx := { ty := [(3, (.int .i64)), (22, tyStyTCl), (23, tyStyTTp), (25, tyStyTMt), (26, tySi64), (28, tyTIm), (52, tyTTp), (57, tyTMt), (94, tyTCl)], fns := [(37, r5goodS), (46, rtypesS), (60, r5fieldsS), (61, rsubS)], tips := [], n := 118, bxs := [2, 5, 8, 9], ptrs := [] }
def r5classA : Ann := ⟨[(10, (11, [.val 7 ((.int .i64)) false]))], [(5, (2, [.val 6 (tySi64) false])), (12, (9, []))], [(12, [[], [], [0, 1], [], [], [0, 1, 2, 3, 4], [0, 1, 2, 3, 4], [0, 1, 2, 3, 4], []]), (14, [[], [], [0, 1], [0, 1], [0, 1, 2, 3], [0, 1], [0, 1], [], [], [0, 1, 2, 3, 4, 5, 6, 7, 8], []]), (15, [[], [], [], [], [], [], [], [5, 6], [5, 6], [5, 6, 7, 8], [5, 6, 7, 8], [5, 6, 7, 8], [5, 6, 7, 8], [], [], []]), (18, [[], [], [0, 1], [0, 1, 2], [0, 1], [0, 1], [], [], [0, 1, 2, 3, 4, 5, 6, 7], []]), (19, [[], [], [], [0, 1, 2], [0, 1, 2], [0, 1, 2], [], [], [], [], [], [9, 10], [9, 10], [], []])], []⟩
theorem r5classE (fuel : Nat) (m : Im) (c : Int) : fnRun r5classG r5classA fuel Try.f38 [.val (tyTIm), .val ((.int .i64))] [.val (.bool)] (m, c, ()) = r5classN fuel m c := by kernel_rfl
theorem r5classO : FOk Try.prog 38 r5classS := fok (G := r5classG) (fn := Try.f38) (A := r5classA) (ctxOk (by kernel_rfl) (by kernel_rfl) ⟨r5goodO, rtypesO, r5fieldsO, rsubO, trivial⟩) Try.func38 (by kernel_rfl) (by kernel_rfl) fun z r _ h => (r5class_ok _ _ r h).elim fun k hk => ⟨k, (r5classE k z.1 z.2.1).trans hk⟩

def r5namedG : Ctx := { ty := [(3, (.int .i64)), (22, tyStyTCl), (23, tyStyTTp), (24, tySi32), (25, tyStyTMt), (26, tySi64), (28, tyTIm), (54, tyTIns), (55, tyStyTIns), (57, tyTMt), (94, tyTCl)], fns := [(60, r5fieldsS)], tips := [], n := 105, bxs := [3, 4, 5], ptrs := [] }
def r5namedA : Ann := ⟨[], [(4, (2, [.val 17 (.bool) false])), (7, (2, [.val 30 (.bool) false])), (10, (2, [.val 39 (.bool) false])), (13, (2, [.val 48 (.bool) false])), (16, (2, [.val 67 (.bool) false]))], [(15, [[], [], [0, 1], [0, 1], [0, 1], [], [], [], [], [7, 8], [7, 8, 9], [7, 8, 9], [7, 8], [7, 8], [], [], []]), (22, [[], [], [0, 1], [0, 1], [0, 1], [], [], [], [], [7, 8], [7, 8], [7, 8, 9, 10], [7, 8, 9, 10], [7, 8], [7, 8], [7, 8], [7, 8], [], [], []])], []⟩
theorem r5namedE (fuel : Nat) (m : Im) (x : Mt) (i : Ins) : fnRun r5namedG r5namedA fuel Try.f62 [.val (tyTIm), .val (tyTMt), .val (tyTIns)] [.val (.bool)] (m, x, i, ()) = r5namedN m x i := by kernel_rfl
theorem r5namedO : FOk Try.prog 62 r5namedS := fok (G := r5namedG) (fn := Try.f62) (A := r5namedA) (ctxOk (by kernel_rfl) (by kernel_rfl) ⟨r5fieldsO, trivial⟩) Try.func62 (by kernel_rfl) (by kernel_rfl) fun z r _ h => ⟨0, (r5namedE 0 z.1 z.2.1 z.2.2.1).trans (r5named_ok _ _ _ r h)⟩

def r5methodG : Ctx := { ty := [(22, tyStyTCl), (23, tyStyTTp), (26, tySi64), (28, tyTIm), (52, tyTTp), (54, tyTIns), (55, tyStyTIns), (57, tyTMt)], fns := [(37, r5goodS), (59, rgoodS), (62, r5namedS)], tips := [], n := 74, bxs := [2, 3], ptrs := [] }
def r5methodA : Ann := ⟨[(4, (4, [.val 5 ((.int .i64)) false]))], [(1, (2, []))], [(6, [[], [0], [0, 1], [0, 1], [0, 1, 2, 3], [0, 1], [0, 1], [], []])], []⟩
theorem r5methodE (fuel : Nat) (m : Im) (x : Mt) : fnRun r5methodG r5methodA fuel Try.f39 [.val (tyTIm), .val (tyTMt)] [.val (.bool)] (m, x, ()) = r5methodN fuel m x := by kernel_rfl
theorem r5methodO : FOk Try.prog 39 r5methodS := fok (G := r5methodG) (fn := Try.f39) (A := r5methodA) (ctxOk (by kernel_rfl) (by kernel_rfl) ⟨r5goodO, rgoodO, r5namedO, trivial⟩) Try.func39 (by kernel_rfl) (by kernel_rfl) fun z r _ h => (r5method_ok _ _ r h).elim fun k hk => ⟨k, (r5methodE k z.1 z.2.1).trans hk⟩

def r5saneG : Ctx := { ty := [(3, (.int .i64)), (22, tyStyTCl), (23, tyStyTTp), (25, tyStyTMt), (26, tySi64), (28, tyTIm), (52, tyTTp), (57, tyTMt)], fns := [(36, r5fitsS), (37, r5goodS), (38, r5classS), (39, r5methodS)], tips := [], n := 111, bxs := [1], ptrs := [] }
def r5saneA : Ann := ⟨[(5, (3, [.val 3 (.bool) false, .val 4 ((.int .i64)) false])), (9, (3, [.val 3 (.bool) false, .val 5 ((.int .i64)) false])), (13, (10, [.val 3 (.bool) false, .val 6 ((.int .i64)) false])), (20, (3, [.val 3 (.bool) false, .val 8 ((.int .i64)) false]))], [(4, (4, [.val 3 (.bool) false])), (8, (4, [.val 3 (.bool) false])), (18, (1, [.val 3 (.bool) false]))], [(11, [[], [0], [0], [0, 1, 2], [0], [0], [], []])], []⟩
theorem r5saneE (fuel : Nat) (m : Im) : fnRun r5saneG r5saneA fuel Try.f25 [.val (tyTIm)] [.val ((.int .i64))] (m, ()) = r5saneN fuel m := by kernel_rfl
theorem r5saneO : FOk Try.prog 25 r5saneS := fok (G := r5saneG) (fn := Try.f25) (A := r5saneA) (ctxOk (by kernel_rfl) (by kernel_rfl) ⟨r5fitsO, r5goodO, r5classO, r5methodO, trivial⟩) Try.func25 (by kernel_rfl) (by kernel_rfl) fun z r hl h => (r5sane_eq _ hl).elim fun k hk => ⟨k, (r5saneE k z.1).trans (hk.trans h)⟩

def cbelowG : Ctx := { ty := [(22, tyStyTCl), (26, tySi64), (28, tyTIm)], fns := [(28, clipIS), (63, kbelowS)], tips := [18], n := 25, bxs := [2], ptrs := [] }
def cbelowA : Ann := ⟨[(3, (5, [.val 5 (tySi64) true, .val 10 ((.int .i64)) false]))], [], [], []⟩
theorem cbelowE (fuel : Nat) (m : Im) (c : Int) : fnRun cbelowG cbelowA fuel Try.f40 [.val (tyTIm), .val ((.int .i64))] [.val (tySi64)] (m, c, ()) = cbelowN fuel m c := by kernel_rfl
theorem cbelowO : FOk Try.prog 40 cbelowS := fok (G := cbelowG) (fn := Try.f40) (A := cbelowA) (ctxOk (by kernel_rfl) (by kernel_rfl) ⟨clipIO, kbelowO, trivial⟩) Try.func40 (by kernel_rfl) (by kernel_rfl) fun z r _ h => (cbelow_ok _ _ r h).elim fun k hk => ⟨k, (cbelowE k z.1 z.2.1).trans hk⟩

def cslotG : Ctx := { ty := [(3, (.int .i64)), (22, tyStyTCl), (26, tySi64), (28, tyTIm), (94, tyTCl)], fns := [], tips := [], n := 41, bxs := [3], ptrs := [] }
def cslotA : Ann := ⟨[], [], [], []⟩
theorem cslotE (fuel : Nat) (m : Im) (c : Int) (n : Int) : fnRun cslotG cslotA fuel Try.f41 [.val (tyTIm), .val ((.int .i64)), .val ((.int .i64))] [.val ((.int .i64)), .val (.bool)] (m, c, n, ()) = cslotN m c n := by kernel_rfl
theorem cslotO : FOk Try.prog 41 cslotS := fok (G := cslotG) (fn := Try.f41) (A := cslotA) (ctxOk (by kernel_rfl) (by kernel_rfl) trivial) Try.func41 (by kernel_rfl) (by kernel_rfl) fun z r _ h => ⟨0, (cslotE 0 z.1 z.2.1 z.2.2.1).trans ((cslot_eq _ _ _).trans h)⟩

def ctargetsG : Ctx := { ty := [(3, (.int .i64)), (26, tySi64), (28, tyTIm), (54, tyTIns)], fns := [(40, cbelowS), (41, cslotS)], tips := [14, 39, 44], n := 45, bxs := [2, 3], ptrs := [] }
def ctargetsA : Ann := ⟨[(7, (6, [.val 5 (tySi64) true, .val 26 ((.int .i64)) false]))], [], [], []⟩
theorem ctargetsE (fuel : Nat) (m : Im) (i : Ins) : fnRun ctargetsG ctargetsA fuel Try.f26 [.val (tyTIm), .val (tyTIns)] [.tip (tySi64)] (m, i, ()) = ctargetsN fuel m i := by kernel_rfl
theorem ctargetsO : FOk Try.prog 26 ctargetsS := fok (G := ctargetsG) (fn := Try.f26) (A := ctargetsA) (ctxOk (by kernel_rfl) (by kernel_rfl) ⟨cbelowO, cslotO, trivial⟩) Try.func26 (by kernel_rfl) (by kernel_rfl) fun z r _ h => (ctargets_ok _ _ r h).elim fun k hk => ⟨k, (ctargetsE k z.1 z.2.1).trans hk⟩

def cofG : Ctx := { ty := [(25, tyStyTMt), (26, tySi64), (28, tyTIm), (54, tyTIns), (55, tyStyTIns), (57, tyTMt)], fns := [(26, ctargetsS), (28, clipIS), (1000000000027, sortIS), (1000000000029, compactIS)], tips := [28], n := 39, bxs := [2, 5, 7, 32, 37], ptrs := [], rows := [5, 32, 37], thaws := [37] }
def cofA : Ann := ⟨[(5, (4, [.own 5 3 ((.int .i64)), .val 24 ((.int .i64)) false]))], [], [], []⟩
theorem cofE (fuel : Nat) (m : Im) (f : Int) : fnRun cofG cofA fuel Try.f13 [.val (tyTIm), .val ((.int .i64))] [.val (tySi64)] (m, f, ()) = cofN fuel m f := by kernel_rfl
theorem cofO : FOk Try.prog 13 cofS := fok (G := cofG) (fn := Try.f13) (A := cofA) (ctxOk (by kernel_rfl) (by kernel_rfl) ⟨ctargetsO, clipIO, sortIO, compactIO, trivial⟩) Try.func13 (by kernel_rfl) (by kernel_rfl) fun z r _ h => (cof_ok _ _ r h).elim fun k hk => ⟨k, (cofE k z.1 z.2.1).trans hk⟩

def creachG : Ctx := { ty := [(3, (.int .i64)), (25, tyStyTMt), (26, tySi64), (28, tyTIm), (61, .unit)], fns := [(13, cofS), (28, clipIS), (1000000000027, sortIS)], tips := [56, 67], n := 75, bxs := [2, 23, 28, 6, 36, 10, 59, 12, 62, 70], ptrs := [], rows := [6, 12, 28, 36, 59, 70], thaws := [73], sets := [62] }
def creachA : Ann := ⟨[(5, (11, [.own 6 3 ((.int .i64)), .set 23])), (9, (7, [.own 6 3 ((.int .i64)), .val 41 ((.int .i64)) false, .set 23])), (18, (3, [.own 12 3 ((.int .i64)), .iter 62]))], [], [], []⟩
theorem creachE (fuel : Nat) (m : Im) (f : Int) : fnRun creachG creachA fuel Try.f14 [.val (tyTIm), .val ((.int .i64))] [.val (tySi64)] (m, f, ()) = creachN fuel m f := by kernel_rfl
theorem creachO : FOk Try.prog 14 creachS := fok (G := creachG) (fn := Try.f14) (A := creachA) (ctxOk (by kernel_rfl) (by kernel_rfl) ⟨cofO, clipIO, sortIO, trivial⟩ (by kernel_rfl)) Try.func14 (by kernel_rfl) (by kernel_rfl) fun z r _ h => (creach_ok _ _ r h).elim fun k hk => ⟨k, (creachE k z.1 z.2.1).trans hk⟩

def r5belowG : Ctx := { ty := [(22, tyStyTCl), (26, tySi64), (28, tyTIm)], fns := [(16, rinS), (77, raboveS)], tips := [21, 25], n := 26, bxs := [2], ptrs := [] }
def r5belowA : Ann := ⟨[(3, (4, [.val 5 (tySi64) true, .val 6 ((.int .i64)) false]))], [], [], []⟩
theorem r5belowE (fuel : Nat) (m : Im) (c : Int) : fnRun r5belowG r5belowA fuel Try.f52 [.val (tyTIm), .val ((.int .i64))] [.tip (tySi64)] (m, c, ()) = r5belowN fuel m c := by kernel_rfl
theorem r5belowO : FOk Try.prog 52 r5belowS := fok (G := r5belowG) (fn := Try.f52) (A := r5belowA) (ctxOk (by kernel_rfl) (by kernel_rfl) ⟨rinO, raboveO, trivial⟩) Try.func52 (by kernel_rfl) (by kernel_rfl) fun z r _ h => (r5below_ok _ _ r h).elim fun k hk => ⟨k, (r5belowE k z.1 z.2.1).trans hk⟩

def r5slotG : Ctx := { ty := [(3, (.int .i64)), (22, tyStyTCl), (26, tySi64), (28, tyTIm), (94, tyTCl)], fns := [], tips := [], n := 41, bxs := [3], ptrs := [] }
def r5slotA : Ann := ⟨[], [], [], []⟩
theorem r5slotE (fuel : Nat) (m : Im) (c : Int) (n : Int) : fnRun r5slotG r5slotA fuel Try.f53 [.val (tyTIm), .val ((.int .i64)), .val ((.int .i64))] [.val ((.int .i64)), .val (.bool)] (m, c, n, ()) = r5slotN m c n := by kernel_rfl
theorem r5slotO : FOk Try.prog 53 r5slotS := fok (G := r5slotG) (fn := Try.f53) (A := r5slotA) (ctxOk (by kernel_rfl) (by kernel_rfl) trivial) Try.func53 (by kernel_rfl) (by kernel_rfl) fun z r _ h => ⟨0, (r5slotE 0 z.1 z.2.1 z.2.2.1).trans ((r5slot_eq _ _ _).trans h)⟩

def r8targetsG : Ctx := { ty := [(3, (.int .i64)), (26, tySi64), (28, tyTIm), (54, tyTIns)], fns := [(52, r5belowS), (53, r5slotS)], tips := [14, 44, 48], n := 49, bxs := [2, 3], ptrs := [] }
def r8targetsA : Ann := ⟨[(7, (5, [.val 5 (tySi64) true, .val 7 ((.int .i64)) false]))], [(2, (2, [.val 5 (tySi64) true]))], [(9, [[], [0], [0, 1], [0], [0], [0, 1, 2, 3, 4], [0, 1, 2, 3, 4], [], [], [], [9], [10], []])], [(9, [0, 1, 2, 3, 4, 5, 6, 7, 8, 9, 11, 10, 12])]⟩
theorem r8targetsE (fuel : Nat) (m : Im) (i : Ins) : fnRun r8targetsG r8targetsA fuel Try.f35 [.val (tyTIm), .val (tyTIns)] [.tip (tySi64)] (m, i, ()) = r8targetsN fuel m i := by kernel_rfl
theorem r8targetsO : FOk Try.prog 35 r8targetsS := fok (G := r8targetsG) (fn := Try.f35) (A := r8targetsA) (ctxOk (by kernel_rfl) (by kernel_rfl) ⟨r5belowO, r5slotO, trivial⟩) Try.func35 (by kernel_rfl) (by kernel_rfl) fun z r _ h => (r8targets_ok _ _ r h).elim fun k hk => ⟨k, (r8targetsE k z.1 z.2.1).trans hk⟩

def r8callsG : Ctx := { ty := [(25, tyStyTMt), (28, tyTIm), (54, tyTIns), (55, tyStyTIns), (57, tyTMt)], fns := [(16, rinS), (35, r8targetsS)], tips := [], n := 32, bxs := [3], ptrs := [] }
def r8callsA : Ann := ⟨[(2, (4, [.val 7 ((.int .i64)) false]))], [], [(4, [[], [0], [0], [0, 1, 2], [0], [0], [0], [0, 1, 2, 3, 4, 5, 6], [0], [0], [], [0, 1, 2, 3, 4, 5, 6, 7, 8, 9, 10], []])], []⟩
theorem r8callsE (fuel : Nat) (m : Im) (f : Int) (g : Int) : fnRun r8callsG r8callsA fuel Try.f24 [.val (tyTIm), .val ((.int .i64)), .val ((.int .i64))] [.val (.bool)] (m, f, g, ()) = r8callsN fuel m f g := by kernel_rfl
theorem r8callsO : FOk Try.prog 24 r8callsS := fok (G := r8callsG) (fn := Try.f24) (A := r8callsA) (ctxOk (by kernel_rfl) (by kernel_rfl) ⟨rinO, r8targetsO, trivial⟩) Try.func24 (by kernel_rfl) (by kernel_rfl) fun z r _ h => (r8calls_ok _ _ _ r h).elim fun k hk => ⟨k, (r8callsE k z.1 z.2.1 z.2.2.1).trans hk⟩

def r8edgesG : Ctx := { ty := [(25, tyStyTMt), (26, tySi64), (28, tyTIm), (31, tyStySi64)], fns := [(24, r8callsS)], tips := [27, 31], n := 36, bxs := [1, 7, 3, 34], ptrs := [], rows := [3, 7, 34] }
def r8edgesA : Ann := ⟨[(3, (9, [.own 3 26 (tySi64), .val 4 ((.int .i64)) false])), (7, (4, [.val 5 (tySi64) true, .val 6 ((.int .i64)) false]))], [], [], []⟩
theorem r8edgesE (fuel : Nat) (m : Im) : fnRun r8edgesG r8edgesA fuel Try.f11 [.val (tyTIm)] [.val (tyStySi64)] (m, ()) = r8edgesN fuel m := by kernel_rfl
theorem r8edgesO : FOk Try.prog 11 r8edgesS := fok (G := r8edgesG) (fn := Try.f11) (A := r8edgesA) (ctxOk (by kernel_rfl) (by kernel_rfl) ⟨r8callsO, trivial⟩) Try.func11 (by kernel_rfl) (by kernel_rfl) fun z r _ h => (r8edges_ok _ r h).elim fun k hk => ⟨k, (r8edgesE k z.1).trans hk⟩

def r8waysG : Ctx := { ty := [(3, (.int .i64)), (4, .bool), (26, tySi64), (31, tyStySi64), (36, tyStySbool), (38, tySbool)], fns := [], tips := [], n := 111, bxs := [13, 22], ptrs := [], rows := [13, 22], nests := [13] }
def r8waysA : Ann := ⟨[(4, (8, [.val 5 ((.int .i64)) false, .row 13 38 ((.osl 4 .bool))])), (8, (4, [.val 6 ((.int .i64)) false, .row 13 38 ((.osl 4 .bool))])), (13, (9, [.val 7 ((.int .i64)) false, .row 13 38 ((.osl 4 .bool))])), (16, (6, [.val 8 ((.int .i64)) false, .row 13 38 ((.osl 4 .bool))])), (19, (3, [.val 9 ((.int .i64)) false, .row 13 38 ((.osl 4 .bool))]))], [], [(11, [[], [0], [], [], [0, 1, 2, 3], [0, 1, 2, 3, 4], [0, 1, 2, 3], [0, 1, 2, 3], [0, 1, 2, 3, 4, 5, 6, 7], [0, 1, 2, 3], [0, 1, 2, 3], [], []]), (21, [[], [0], [], [], [0, 1, 2, 3], [0, 1, 2, 3, 4], [0, 1, 2, 3, 4, 5], [0, 1, 2, 3, 4], [0, 1, 2, 3, 4], [0, 1, 2, 3, 4, 5, 6, 7, 8], [0, 1, 2, 3, 4], [0, 1, 2, 3, 4], [0, 1, 2, 3, 4], [0, 1, 2, 3, 4], [0, 1, 2, 3, 4, 13], [0, 1, 2, 3, 4], [0, 1, 2, 3, 4], [0, 1, 2, 3, 4, 13, 14, 15, 16], [0, 1, 2, 3, 4], [0, 1, 2, 3, 4], [0, 1, 2, 3, 4], [0, 1, 2, 3, 4], [0, 1, 2, 3, 4, 21], [0, 1, 2, 3, 4], [0, 1, 2, 3, 4], [0, 1, 2, 3, 4, 21, 22, 23, 24], [0, 1, 2, 3, 4], [0, 1, 2, 3, 4], [0, 1, 2, 3, 4], [0, 1, 2, 3, 4], [], []])], []⟩
theorem r8waysE (fuel : Nat) (l : List (List Int)) : fnRun r8waysG r8waysA fuel Try.f15 [.val (tyStySi64)] [.val (tyStySbool)] (l, ()) = r8waysN fuel l := by kernel_rfl
theorem r8waysO : FOk Try.prog 15 r8waysS := fok (G := r8waysG) (fn := Try.f15) (A := r8waysA) (ctxOk (by kernel_rfl) (by kernel_rfl) trivial) Try.func15 (by kernel_rfl) (by kernel_rfl) fun z r _ h => (r8ways_ok _ r h).elim fun k hk => ⟨k, (r8waysE k z.1).trans hk⟩

def sane11G : Ctx := { ty := [(22, tyStyTCl), (24, tySi32), (25, tyStyTMt), (28, tyTIm)], fns := [(25, r5saneS)], tips := [], n := 24, bxs := [1], ptrs := [] }
def sane11A : Ann := ⟨[], [], [], []⟩
theorem sane11E (fuel : Nat) (m : Im) : fnRun sane11G sane11A fuel Try.f9 [.val (tyTIm)] [.val (.bool)] (m, ()) = sane11N m := by kernel_rfl
theorem sane11O : FOk Try.prog 9 sane11S := fok (G := sane11G) (fn := Try.f9) (A := sane11A) (ctxOk (by kernel_rfl) (by kernel_rfl) ⟨r5saneO, trivial⟩) Try.func9 (by kernel_rfl) (by kernel_rfl) fun z r _ h => ⟨0, (sane11E 0 z.1).trans ((sane11_eq _).trans h)⟩

def awake11G : Ctx := { ty := [(25, tyStyTMt), (26, tySi64), (28, tyTIm), (52, tyTTp), (54, tyTIns), (55, tyStyTIns), (57, tyTMt)], fns := [(12, rintsS), (13, cofS), (14, creachS), (24, r8callsS), (25, r5saneS)], tips := [], n := 40, bxs := [1], ptrs := [] }
def awake11A : Ann := ⟨[], [], [], []⟩
theorem awake11E (fuel : Nat) : fnRun awake11G awake11A fuel Try.f10 [] [.val (.bool)] () = awake11N := by kernel_rfl
theorem awake11O : FOk Try.prog 10 awake11S := fok (G := awake11G) (fn := Try.f10) (A := awake11A) (ctxOk (by kernel_rfl) (by kernel_rfl) ⟨rintsO, cofO, creachO, r8callsO, r5saneO, trivial⟩) Try.func10 (by kernel_rfl) (by kernel_rfl) fun z r _ h => ⟨0, (awake11E 0).trans h⟩

def callsOfG : Ctx := { ty := [(26, tySi64), (28, tyTIm), (31, tyStySi64)], fns := [(9, sane11S), (10, awake11S), (11, r8edgesS), (12, rintsS), (13, cofS), (14, creachS)], tips := [], n := 52, bxs := [2], ptrs := [] }
def callsOfA : Ann := ⟨[(5, (4, [.val 6 ((.int .i64)) false]))], [(9, (1, [.val 35 (.bool) false]))], [(7, [[], [0], [], [0, 1, 2], [0, 1, 2, 3], [0, 1, 2], [0, 1, 2], [], []])], []⟩
theorem callsOfE (fuel : Nat) (m : Im) (f : Int) : fnRun callsOfG callsOfA fuel Try.f3 [.val (tyTIm), .val ((.int .i64))] [.val (.bool)] (m, f, ()) = callsOfN fuel m f := by kernel_rfl
theorem callsOfC (hl : ∀ z, WfAll Try.prog callsOfT z → ∃ k, callsOfN k z.1 z.2.1 = some (true, ())) : FOk Try.prog 3 callsOfS := fok (G := callsOfG) (fn := Try.f3) (A := callsOfA) (ctxOk (by kernel_rfl) (by kernel_rfl) ⟨sane11O, awake11O, r8edgesO, rintsO, cofO, creachO, trivial⟩) Try.func3 (by kernel_rfl) (by kernel_rfl) fun z r _ h => by
  by_cases hw : WfAll Try.prog callsOfT z
  · obtain ⟨k, hk⟩ := hl z hw
    refine ⟨k, (callsOfE k z.1 z.2.1).trans (hk.trans ?_)⟩
    rw [← h]
    exact (if_pos hw).symm
  · have hn : callsOfS.run z = none := if_neg hw
    rw [hn] at h
    cases h

def callsClosedG : Ctx := { ty := [(3, (.int .i64)), (25, tyStyTMt), (26, tySi64), (28, tyTIm)], fns := [(9, sane11S), (10, awake11S), (14, creachS), (16, rinS)], tips := [], n := 52, bxs := [1], ptrs := [] }
def callsClosedA : Ann := ⟨[(4, (14, [.val 3 ((.int .i64)) false])), (10, (8, [.val 5 ((.int .i64)) false])), (14, (4, [.val 7 ((.int .i64)) false]))], [], [(12, [[], [0], [0, 1], [0], [0], [], []])], []⟩
theorem callsClosedE (fuel : Nat) (m : Im) : fnRun callsClosedG callsClosedA fuel Try.f5 [.val (tyTIm)] [.val (.bool)] (m, ()) = callsClosedN fuel m := by kernel_rfl
theorem callsClosedC (hl : ∀ z, WfAll Try.prog callsClosedT z → ∃ k, callsClosedN k z.1 = some (true, ())) : FOk Try.prog 5 callsClosedS := fok (G := callsClosedG) (fn := Try.f5) (A := callsClosedA) (ctxOk (by kernel_rfl) (by kernel_rfl) ⟨sane11O, awake11O, creachO, rinO, trivial⟩) Try.func5 (by kernel_rfl) (by kernel_rfl) fun z r _ h => by
  by_cases hw : WfAll Try.prog callsClosedT z
  · obtain ⟨k, hk⟩ := hl z hw
    refine ⟨k, (callsClosedE k z.1).trans (hk.trans ?_)⟩
    rw [← h]
    exact (if_pos hw).symm
  · have hn : callsClosedS.run z = none := if_neg hw
    rw [hn] at h
    cases h

def callsReachG : Ctx := { ty := [(4, .bool), (26, tySi64), (28, tyTIm), (36, tyStySbool), (38, tySbool)], fns := [(9, sane11S), (10, awake11S), (11, r8edgesS), (12, rintsS), (14, creachS), (15, r8waysS)], tips := [39], n := 50, bxs := [1], ptrs := [] }
def callsReachA : Ann := ⟨[(5, (10, [.val 4 ((.int .i64)) false])), (9, (4, [.val 5 (tySi64) true, .val 6 ((.int .i64)) false]))], [], [], []⟩
theorem callsReachE (fuel : Nat) (m : Im) : fnRun callsReachG callsReachA fuel Try.f4 [.val (tyTIm)] [.val (.bool)] (m, ()) = callsReachN fuel m := by kernel_rfl
theorem callsReachC (hl : ∀ z, WfAll Try.prog callsReachT z → ∃ k, callsReachN k z.1 = some (true, ())) : FOk Try.prog 4 callsReachS := fok (G := callsReachG) (fn := Try.f4) (A := callsReachA) (ctxOk (by kernel_rfl) (by kernel_rfl) ⟨sane11O, awake11O, r8edgesO, rintsO, creachO, r8waysO, trivial⟩) Try.func4 (by kernel_rfl) (by kernel_rfl) fun z r _ h => by
  by_cases hw : WfAll Try.prog callsReachT z
  · obtain ⟨k, hk⟩ := hl z hw
    refine ⟨k, (callsReachE k z.1).trans (hk.trans ?_)⟩
    rw [← h]
    exact (if_pos hw).symm
  · have hn : callsReachS.run z = none := if_neg hw
    rw [hn] at h
    cases h

end Go.Pli
