/- SaneTurned by hand: the machine's runs between the two writes into the input's memory. -/
import Derived.Test.YtibkgmpfncacpaaPliEq5
import Derived.Test.YtibkgmpfncacpaaPliLaw06
import Derived.Test.YtibkgmpfncacpaaPliTurn
import Derived.Test.YtibkgmpfncacpaaPMRead
import Derived.Test.YtibkgmpfncacpaaPMPure
namespace Go.Pli
open Go Go.PM Go.Proofs
def hd4 : Code → Code
 | .seq a _ => a
 | c => c
def tl4 : Code → Code
 | .seq _ b => b
 | c => c
noncomputable section
noncomputable def st0 : Code := (Try.f4.body).getD .skip
noncomputable def st1 : Code := tl4 st0
noncomputable def st3 : Code := tl4 st1
noncomputable def st4 : Code := tl4 st3
noncomputable def st5 : Code := tl4 st4
noncomputable def st6 : Code := tl4 st5
noncomputable def st7 : Code := tl4 st6
noncomputable def st8 : Code := tl4 st7
noncomputable def st9 : Code := tl4 st8
noncomputable def st10 : Code := tl4 st9
noncomputable def st11 : Code := tl4 st10
noncomputable def GT : Ctx := { ty := [(3, .int .i64), (4, .bool), (5, .int .u8), (25, tyStyTMt), (28, tyTIm), (36, tyStyTIns), (38, tyTMt), (41, tyTIns)], fns := [(11, small6S), (12, awake6S), (13, scheckS), (14, r5saneS)], tips := [], n := 84, bxs := [12, 40, 45], rows := [12, 40, 45] }
def AT : Ann := ⟨[], [], [(9, [[], [], [0, 1], [], [], []])], []⟩
theorem GTok : CtxOk Try.prog GT := ctxOk (by kernel_rfl) (by kernel_rfl) ⟨small6O, awake6O, scheckO, r5saneO, trivial⟩
def eT (m : Im) (f pc a b : Int) : Env := Env.set (Env.set (Env.set (Env.set (Env.set (Env.set (fun _ => PV.unk) (.box 1000005) (.frz 28 (tyTIm.split m) 0)) (.slot 1) (.val ⟨.int .u8, f, false⟩)) (.slot 2) (.val ⟨.int .u8, pc, false⟩)) (.slot 3) (.val ⟨.int .u8, a, false⟩)) (.slot 4) (.val ⟨.int .u8, b, false⟩)) (.slot 5) (.bptr 1000005 0)
def asT (t : Ty) : PV → Option t.D
 | .val d => d.as t
 | _ => none
def get1 (e : Env) : Option (Int × Int × Int × Int × Unit) :=
 match e (.slot 5) with
 | .bptr i o => bif Nat.beq i 1000005 && Nat.beq o 0 then (asT (.int .u8) (e (.slot 1))).bind fun f => (asT (.int .u8) (e (.slot 2))).bind fun pc => (asT (.int .u8) (e (.slot 3))).bind fun a => (asT (.int .u8) (e (.slot 4))).bind fun b => some (f, pc, a, b, ()) else none
 | _ => none
noncomputable def kT1 : Ex → Env → Option ((Bool × Unit) ⊕ (Int × Int × Int × Int × Unit))
 | .ret, e => (asT .bool (e (.slot 10))).map fun r => .inl (r, ())
 | .normal, e => (get1 e).map .inr
 | _, _ => none
theorem execT1 (m : Im) (f pc a b : Int) : exec GT AT 1 (hd4 st1) (eT m f pc a b) kT1 =
  bif !(small6 m) then awake6N.bind (fun r => some (.inl (r.1, ()))) else bif r5sane m != 0 then awake6N.bind (fun r => some (.inl (r.1, ()))) else bif (m.2.2.2.1.length : Int) == 0 then awake6N.bind (fun r => some (.inl (r.1, ()))) else some (.inr (f, pc, a, b, ())) := by kernel_rfl
def regOps : Code → Array Oper
 | .region _ ops _ => ops
 | _ => #[]
noncomputable def ops4 : Array Oper := regOps (hd4 st4)
def eA (f pc a b : Int) : Env := Env.set (Env.set (Env.set (Env.set (Env.set (Env.set (Env.set (Env.set (fun _ => PV.unk) (.box 1000005) (.frz 28 [] 0)) (.box 1000011) (.lrow .unit 0 0 0)) (.slot 1) (.val ⟨.int .u8, f, false⟩)) (.slot 2) (.val ⟨.int .u8, pc, false⟩)) (.slot 3) (.val ⟨.int .u8, a, false⟩)) (.slot 4) (.val ⟨.int .u8, b, false⟩)) (.slot 5) (.bptr 1000005 0)) (.slot 11) (.hdr 1000011 0)
def opOf (ops : Array Oper) (i : Nat) : Oper := (nth ops.toList i).getD ⟨none, .nilCheck (.const undef), 0, "", #[], none⟩
def eB (f pc a b : Int) : Env := Env.set (Env.set (eA f pc a b) (.box 40) (.row 41 tyTIns [] 0 0)) (.slot 40) (.hdr 40 0)
def eC (f pc a b : Int) (x : Mt) : Env := Env.set (eB f pc a b) (.slot 41) (.eptr (tyTMt.split x))
theorem list4 : ops4.toList = opOf ops4 0 :: opOf ops4 1 :: ops4.toList.drop 2 := by kernel_rfl
theorem reg4 : st4 = .seq (.region 4 ops4 false) st5 := by kernel_rfl
theorem reg5 : st5 = .seq (hd4 st5) st6 := by kernel_rfl
theorem reg6 : st6 = .seq (hd4 st6) st7 := by kernel_rfl
theorem op40 : (opOf ops4 0).guard = none ∧ dstOk GT.n (opOf ops4 0).dst = true := ⟨by kernel_rfl, by kernel_rfl⟩
theorem op41 : (opOf ops4 1).guard = none ∧ (opOf ops4 1).op = .move (.tmp 11) ∧ (opOf ops4 1).dst = some 41 := ⟨by kernel_rfl, by kernel_rfl, by kernel_rfl⟩
theorem runB (f pc a b : Int) : (opP GT (opOf ops4 0)).run (eA f pc a b) some = some (eB f pc a b) := by kernel_rfl
def get6 (e : Env) : Option (List Ins) :=
 match e (.slot 5), e (.slot 11), e (.slot 12) with
 | .bptr i o, .hdr i2 h2, .hdr j hv => bif Nat.beq i 1000005 && (Nat.beq o 0 && (Nat.beq i2 1000011 && Nat.beq h2 0)) then (match e (.box 1000011), e (.box j) with
  | .lrow _ _ hv0 _, .row e' r xs hv' _ => bif Nat.beq hv0 0 && Nat.beq hv hv' then (DV.mk (.sl e' r) xs false).as (.sl 41 tyTIns) else none
  | _, _ => none) else none
 | _, _, _ => none
noncomputable def kT6 : Ex → Env → Option (List Ins)
 | .normal, e => get6 e
 | _, _ => none
noncomputable def kT5 : Ex → Env → Option (List Ins)
 | .normal, e => exec GT AT 1 (hd4 st6) e kT6
 | _, _ => none
def turnA (code : List Ins) (q : Nat) (a b : Int) : List Ins :=
 (code.set q ((code.getD q zIns).1, IntKind.i64.wrap a, (code.getD q zIns).2.2.1, ())).set q (((code.set q ((code.getD q zIns).1, IntKind.i64.wrap a, (code.getD q zIns).2.2.1, ())).getD q zIns).1, ((code.set q ((code.getD q zIns).1, IntKind.i64.wrap a, (code.getD q zIns).2.2.1, ())).getD q zIns).2.1, IntKind.i64.wrap b, ())
theorem execC (f pc a b : Int) (x : Mt) : runOps GT ops4 (ops4.toList.drop 2) (eC f pc a b x) (fun e => exec GT AT 1 (hd4 st5) e kT5) =
  bif decide (([] : List Ins).length + x.2.2.2.1.length < rowMax) && true then
   bif !decide (((([] : List Ins) ++ x.2.2.2.1).length : Int) = 0) then
    bif decide (0 ≤ (IntKind.i64.wrap pc).tmod ((([] : List Ins) ++ x.2.2.2.1).length : Int)) && decide ((IntKind.i64.wrap pc).tmod ((([] : List Ins) ++ x.2.2.2.1).length : Int) < (([] : List Ins) ++ x.2.2.2.1).length) then
     some (turnA (([] : List Ins) ++ x.2.2.2.1) ((IntKind.i64.wrap pc).tmod ((([] : List Ins) ++ x.2.2.2.1).length : Int)).toNat a b)
    else none
   else none
  else none := by kernel_rfl
def eD (m : Im) : Env := Env.set (Env.set (Env.set (Env.set (Env.set (Env.set (fun _ => PV.unk) (.box 1000005) (.frz 28 (tyTIm.split m) 0)) (.box 1000011) (.lrow .unit 0 0 0)) (.box 1000014) (.lrow .unit 0 0 0)) (.slot 5) (.bptr 1000005 0)) (.slot 11) (.hdr 1000011 0)) (.slot 14) (.hdr 1000014 0)
def get9 (e : Env) : Option (Bool × Unit) :=
 match e (.slot 11), e (.slot 14) with
 | .hdr i2 h2, .hdr i3 h3 => bif Nat.beq i2 1000011 && (Nat.beq h2 0 && (Nat.beq i3 1000014 && Nat.beq h3 0)) then (match e (.box 1000011), e (.box 1000014) with
  | .lrow _ _ v1 _, .lrow _ _ v2 _ => bif Nat.beq v1 0 && Nat.beq v2 0 then (asT .bool (e (.slot 15))).bind fun r => some (r, ()) else none
  | _, _ => none) else none
 | _, _ => none
noncomputable def kT9 : Ex → Env → Option (Bool × Unit)
 | .normal, e => get9 e
 | _, _ => none
theorem reg9 : st9 = .seq (hd4 st9) st10 := by kernel_rfl
theorem execD (m : Im) : exec GT AT 1 (hd4 st9) (eD m) kT9 = some (scheck m == r5sane m, ()) := by kernel_rfl
def eE (r : Bool) : Env := Env.set (fun _ => PV.unk) (.slot 15) (.val ⟨.bool, r, false⟩)
noncomputable def kTE : Ex → Env → Option (Bool × Unit)
 | .ret, e => (asT .bool (e (.slot 10))).map fun r => (r, ())
 | _, _ => none
theorem execE (r : Bool) : exec GT AT 1 st11 (eE r) kTE = awake6N.bind fun q => bif q.1 then some (r, ()) else some (false, ()) := by kernel_rfl
end
end Go.Pli
