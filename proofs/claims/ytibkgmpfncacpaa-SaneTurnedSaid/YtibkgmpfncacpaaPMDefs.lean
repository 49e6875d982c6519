/- PM: a value machine for the model's code. Definitions alone: what a piece of code comes to on typed values, without memory. -/
import Derived.Calls
import Derived.LoopN
import Derived.Laws.BytesArg
namespace Go.PM
inductive Ty where
 | unit | int (k : IntKind) | bool | str | sl (e : TypeId) (r : Ty) | pair (a b : Ty)
 /-- one cell of which nothing is known -/
 | any
 /-- a closure of function g, whose captured variables hold c -/
 | clo (g : FuncId) (c : Ty)
 /-- in a row that may be written: a cell with the header of a row of its own, which may be written, too -/
 | osl (e : TypeId) (r : Ty)
 deriving DecidableEq
@[reducible] def Ty.D : Ty → Type
 | .unit => Unit
 | .int _ => Int
 | .bool => Bool
 | .str => ByteArray
 | .sl _ r => List r.D
 | .pair a b => a.D × b.D
 | .any => Unit
 | .clo _ c => c.D
 | .osl _ r => List r.D
def Ty.sz : Ty → Nat
 | .unit => 0
 | .pair a b => a.sz + b.sz
 | _ => 1
def Ty.zero : (t : Ty) → t.D
 | .unit => ()
 | .int _ => (0 : Int)
 | .bool => false
 | .str => (⟨#[]⟩ : ByteArray)
 | .sl _ _ => []
 | .pair a b => (a.zero, b.zero)
 | .any => ()
 | .clo _ c => c.zero
 | .osl _ _ => []
def Ty.isAgg : Ty → Bool
 | .unit | .pair _ _ => true
 | _ => false
structure DV where
 t : Ty
 x : t.D
 tip : Bool
def DV.clear (d : DV) : DV := ⟨d.t, d.x, false⟩
def lk (i k : Nat) : Nat := 2000000 + 1000 * i + k
def DV.isLnk (d : DV) : Bool := match d.t with
 | .any => true
 | _ => false
def lnkDV : DV := ⟨.any, (), false⟩
def noLnk (l : List DV) : Bool := l.all fun d => !d.isLnk
def cellLnk : List DV → Nat → Bool
 | [], _ => false
 | d :: _, 0 => d.isLnk
 | _ :: l, k + 1 => cellLnk l k
def Ty.split : (t : Ty) → t.D → List DV
 | .unit, _ => []
 | .pair a b, x => a.split x.1 ++ b.split x.2
 | .int k, x => [⟨.int k, x, false⟩]
 | .bool, x => [⟨.bool, x, false⟩]
 | .str, x => [⟨.str, x, false⟩]
 | .sl e r, x => [⟨.sl e r, x, false⟩]
 | .any, x => [⟨.any, x, false⟩]
 | .clo g c, x => [⟨.clo g c, x, false⟩]
 | .osl e r, x => [⟨.osl e r, x, false⟩]
def DV.as (d : DV) (t : Ty) : Option t.D := if h : d.t = t then some (h ▸ d.x) else none
def takeOne (t : Ty) : List DV → Option (t.D × List DV)
 | d :: l => match d.as t with
  | some x => some (x, l)
  | none => none
 | [] => none
def Ty.build : (t : Ty) → List DV → Option (t.D × List DV)
 | .unit, l => some ((), l)
 | .pair a b, l => match a.build l with
  | some (x, l') => match b.build l' with
   | some (y, l'') => some ((x, y), l'')
   | none => none
  | none => none
 | .int k, l => takeOne (.int k) l
 | .bool, l => takeOne .bool l
 | .str, l => takeOne .str l
 | .sl e r, l => takeOne (.sl e r) l
 | .any, l => takeOne .any l
 | .clo g c, l => takeOne (.clo g c) l
 | .osl e r, l => takeOne (.osl e r) l
def Ty.plain : Ty → Bool
 | .clo _ _ => false
 | .osl _ _ => false
 | .pair a b => a.plain && b.plain
 | .sl _ r => r.plain
 | _ => true
def Ty.linkOk : Ty → Bool
 | .osl _ r => r.plain
 | .pair a b => a.linkOk && b.linkOk
 | _ => true
def Ty.nest : Ty → Ty
 | .sl e r => .osl e r
 | .pair a b => .pair a.nest b.nest
 | t => t
def Ty.unest : Ty → Ty
 | .osl e r => .sl e r
 | .pair a b => .pair a.unest b.unest
 | t => t
def lnkCell (d : DV) : DV := match d with
 | ⟨.osl _ _, _, _⟩ => lnkDV
 | d => d
def lnkCells (l : List DV) : List DV := l.map lnkCell
theorem Ty.unest_D : ∀ t : Ty, t.unest.D = t.D
 | .osl _ _ => rfl
 | .pair a b => by simp only [Ty.unest, Ty.D]; rw [Ty.unest_D a, Ty.unest_D b]
 | .unit => rfl
 | .int _ => rfl
 | .bool => rfl
 | .str => rfl
 | .sl _ _ => rfl
 | .any => rfl
 | .clo _ _ => rfl
def unestL (r : Ty) (xs : List r.D) : List r.unest.D := cast (congrArg List r.unest_D.symm) xs
def Ty.fld : Ty → Nat → Option (Nat × Ty)
 | .pair a _, 0 => some (0, a)
 | .pair a b, n + 1 => match b.fld n with
  | some (o, t) => some (a.sz + o, t)
  | none => none
 | _, _ => none
inductive Place where
 | slot (t : Nat)
 | box (i : Nat)
 deriving DecidableEq
inductive PV where
 | unk
 | undef
 | nil
 | nilp
 | val (d : DV)
 | agg (cs : List DV)
 | tup (vs : List (Bool × List DV))
 | bptr (i lo : Nat)
 | eptr (cs : List DV)
 | fn (g : FuncId)
 | box (T : TypeId) (cs : List DV) (ver : Nat)
 | lent (T : TypeId) (ver : Nat)
 /-- a slice that is not nil; that is nil -/
 | full (d : DV) (b : Bool)
 /-- a slice that was just made, with no room left -/
 | exact (d : DV)
 /-- a variable that is captured: it is not written any more -/
 | frz (T : TypeId) (cs : List DV) (ver : Nat)
 /-- a place: a row that may be written; hv: its header's version -/
 | row (e : TypeId) (r : Ty) (xs : List r.D) (hv ver : Nat)
 /-- a place whose row has gone elsewhere -/
 | gone (hv ver : Nat)
 /-- a place whose row is lent to a call; n: its length -/
 | lrow (r : Ty) (n hv ver : Nat)
 /-- a row's header -/
 | hdr (j hv : Nat)
 /-- cell o of element i of a row -/
 | rptr (j hv i o sz : Nat)
 /-- values of which one is a row's header -/
 | tupr (vs : List (Bool × List DV)) (i j hv : Nat)
 /-- a place: a map whose keys are integers and whose elements are empty; live: it may still be used -/
 | set (ks : List Int) (live : Bool) (ver : Nat)
 /-- a place: a map that is ranged over: the keys that are still to come; the last one -/
 | iter (left : List Int) (cur : Option Int) (ver : Nat)
 /-- a map's reference; an iterator's -/
 | mptr (j : Nat)
 | itr (j : Nat)
 /-- the header of the row in cell o of element i of a row -/
 | shdr (j hv ver i o : Nat)
 /-- cell o2 of its element i2 -/
 | sptr (j hv ver i o i2 o2 sz2 : Nat)
 /-- a struct; hs: which of its cells are rows' headers: the cell, the place, the header's version -/
 | aggh (cs : List DV) (hs : List (Nat × (Nat × Nat)))
 /-- a place: a row of which one cell (o of element i) has the header of a row ys of its own -/
 | hole (e : TypeId) (r : Ty) (xs : List r.D) (hv ver i o : Nat) (e2 : TypeId) (r2 : Ty) (ys : List r2.D)
def PV.isBox : PV → Bool
 | .box _ _ _ => true
 | .lent _ _ => true
 | .frz _ _ _ => true
 | .row _ _ _ _ _ => true
 | .gone _ _ => true
 | .lrow _ _ _ _ => true
 | .set _ _ _ => true
 | .iter _ _ _ => true
 | .hole _ _ _ _ _ _ _ _ _ _ => true
 | _ => false
def PV.owns : PV → Bool
 | .val d => d.tip
 | .exact _ => true
 | _ => false
def PV.isVar : PV → Bool
 | .box _ _ _ => true
 | .lent _ _ => true
 | .row _ _ _ _ _ => true
 | .gone _ _ => true
 | .lrow _ _ _ _ => true
 | .set _ _ _ => true
 | .iter _ _ _ => true
 | .hole _ _ _ _ _ _ _ _ _ _ => true
 | _ => false
def PV.isCell : PV → Bool
 | .box _ _ _ => true
 | .lent _ _ => true
 | .frz _ _ _ => true
 | .set _ _ _ => true
 | .iter _ _ _ => true
 | _ => false
def PV.at? : PV → Option Nat
 | .bptr i _ => some i
 | .hdr j _ => some j
 | .rptr j _ _ _ _ => some j
 | .tupr _ _ j _ => some j
 | .mptr j => some j
 | .itr j => some j
 | .shdr j _ _ _ _ => some j
 | .sptr j _ _ _ _ _ _ _ => some j
 | .aggh _ _ => some 0
 | _ => none
def PV.ats : PV → List Nat
 | .aggh _ hs => hs.map fun h => h.2.1
 | v => v.at?.toList
def PV.isSub : PV → Bool
 | .shdr _ _ _ _ _ => true
 | .sptr _ _ _ _ _ _ _ _ => true
 | .aggh _ _ => true
 | _ => false
def PV.lnkAt (k : Nat) : PV → Bool
 | .box _ cs _ => Nat.blt k 1000 && cellLnk cs k
 | _ => false
def PV.there : PV → Bool
 | .row _ _ _ _ _ => true
 | .lrow _ _ _ _ => true
 | .hole _ _ _ _ _ _ _ _ _ _ => true
 | _ => false
def PV.cellAt : PV → Option Nat
 | .bptr i _ => some i
 | .mptr j => some j
 | .itr j => some j
 | _ => none
abbrev Env := Place → PV
def Env.set (e : Env) (p : Place) (v : PV) : Env := fun q => if q = p then v else e q
def rowHead : PV → PV
 | .row e r _ hv _ => .row e r [] hv 0
 | _ => .unk
inductive Prog where
 | done
 | fail
 | get (p : Place) (k : PV → Prog)
 /-- only a row's header is read -/
 | getH (i : Nat) (k : PV → Prog)
 | set (p : Place) (v : PV) (k : Prog)
 | chk (b : Bool) (k : Prog)
 | bind {T : Ty} (m : Option T.D) (k : T.D → Prog)
def Prog.run {R : Type} : Prog → Env → (Env → Option R) → Option R
 | .done, e, c => c e
 | .fail, _, _ => none
 | .get p k, e, c => (k (e p)).run e c
 | .getH i k, e, c => (k (rowHead (e (.box i)))).run e c
 | .set p v k, e, c => k.run (e.set p v) c
 | .chk b k, e, c => bif b then k.run e c else none
 | .bind m k, e, c => m.bind fun x => (k x).run e c
def PV.as (t : Ty) : PV → Option t.D
 | .val d => bif t.isAgg then none else d.as t
 | .agg cs => bif t.isAgg then (match t.build cs with
  | some (x, []) => some x
  | _ => none) else none
 | .nil => match t with
  | .sl _ _ => some []
  | _ => none
 | .full d _ => bif t.isAgg then none else d.as t
 | .exact d => bif t.isAgg then none else d.as t
 | .fn f => match t with
  | .clo h .unit => bif Nat.beq f h then some () else none
  | _ => none
 | _ => none
def PV.of (t : Ty) (x : t.D) : PV :=
 match t, x with
 | .unit, _ => .agg []
 | .pair a b, x => .agg ((Ty.pair a b).split x)
 | t, x => .val ⟨t, x, false⟩
inductive Md where
 | val (t : Ty)
 | tip (t : Ty)
 | box (T : TypeId) (t : Ty)
 /-- a pointer, a slice (s) that is nil -/
 | nilp (s : Bool)
 /-- a captured variable -/
 | cap (t : Ty)
 /-- a slice that is not nil; that is nil -/
 | full (t : Ty) (b : Bool)
 /-- a row that may be written; as a result: one that is nobody else's -/
 | own (e : TypeId) (r : Ty)
 /-- a row that is handed over -/
 | take (e : TypeId) (r : Ty)
 /-- a result: a struct, whose rows are nobody else's -/
 | str (t : Ty)
@[reducible] def Md.ty : Md → Ty
 | .val t | .tip t | .box _ t | .cap t | .full t _ | .str t => t
 | .nilp _ => .unit
 | .own e r => .sl e r
 | .take e r => .sl e r
def Md.isBox : Md → Bool
 | .box _ _ => true
 | .own _ _ => true
 | _ => false
@[reducible] def tupTy : List Md → Ty
 | [] => .unit
 | m :: l => .pair m.ty (tupTy l)
structure FSpec where
 ps : List Md
 rs : List Md
 run : (tupTy ps).D → Option (tupTy (rs ++ ps.filter Md.isBox)).D
structure Ctx where
 ty : List (TypeId × Ty)
 fns : List (FuncId × FSpec)
 /-- moves that hand on the right to append -/
 tips : List Nat
 /-- how many slots -/
 n : Nat
 /-- boxes that may be written -/
 bxs : List Nat
 /-- types of pointers -/
 ptrs : List TypeId := []
 /-- operations that make a row which may be written -/
 rows : List Nat := []
 /-- slots whose rows are read as values -/
 thaws : List Nat := []
 /-- types of maps from integers to nothing -/
 sets : List TypeId := []
 /-- operations that make a row of rows -/
 nests : List Nat := []
 /-- types of structs with cells that lead to rows of their own -/
 lnks : List (TypeId × List Nat) := []
def look {α : Type} (n : Nat) : List (Nat × α) → Option α
 | [] => none
 | (m, a) :: l => if n = m then some a else look n l
def constPV : Value → PV
 | .int k n => .val ⟨.int k, n, false⟩
 | .bool b => .val ⟨.bool, b, false⟩
 | .string s => .val ⟨.str, s, false⟩
 | .slice none 0 0 => .nil
 | .pointer none => .nilp
 | _ => .unk
def getV (x : Operand) (k : PV → Prog) : Prog :=
 match x with
 | .tmp t => .get (.slot t) k
 | .const v => k (constPV v)
 | .func f => k (.fn f)
 | .global _ => .fail
def getD (t : Ty) (x : Operand) (k : t.D → Prog) : Prog :=
 getV x fun v => match v.as t with
  | some y => k y
  | none => .fail
def put (dst : Option Nat) (v : PV) (k : Prog) : Prog :=
 match dst with
 | some d => .set (.slot d) v k
 | none => k
def PV.clear : PV → PV
 | .val d => .val d.clear
 | .exact d => .val d.clear
 | v => v
def hand (x : Operand) (k : PV → Prog) : Prog :=
 match x with
 | .tmp t => .get (.slot t) fun v => match v with
  | .val ⟨ty, y, true⟩ => .set (.slot t) (.val ⟨ty, y, false⟩) (k (.val ⟨ty, y, true⟩))
  | .exact ⟨ty, y, _⟩ => .set (.slot t) (.val ⟨ty, y, false⟩) (k (.val ⟨ty, y, true⟩))
  | v => k v
 | x => getV x k
def typed (t : Option Ty) : PV → PV
 | .nil => match t with
  | some (.sl e r) => .val ⟨.sl e r, [], true⟩
  | _ => .unk
 | v => v
def cmpInt (op : BinOp) (x y : Int) : Option Bool :=
 match op with
 | .eql => some (x == y)
 | .neq => some (x != y)
 | .lss => some (decide (x < y))
 | .leq => some (decide (x ≤ y))
 | .gtr => some (decide (x > y))
 | .geq => some (decide (x ≥ y))
 | _ => none
def binInt (op : BinOp) (k : IntKind) (x y : Int) : Option (Bool × Int) :=
 match op with
 | .add => some (true, k.wrap (x + y))
 | .sub => some (true, k.wrap (x - y))
 | .mul => some (true, k.wrap (x * y))
 | .quo => some (!decide (y = 0), k.wrap (x.tdiv y))
 | .rem => some (!decide (y = 0), x.tmod y)
 | .and => some (true, k.wrap (BitVec.ofInt k.bits x &&& BitVec.ofInt k.bits y).toNat)
 | .or => some (true, k.wrap (BitVec.ofInt k.bits x ||| BitVec.ofInt k.bits y).toNat)
 | .xor => some (true, k.wrap (BitVec.ofInt k.bits x ^^^ BitVec.ofInt k.bits y).toNat)
 | .shl => some (!decide (y < 0), k.wrap (x * 2 ^ (min y.toNat k.bits)))
 | .shr => some (!decide (y < 0), x.fdiv (2 ^ (min y.toNat k.bits)))
 | _ => none
def eqTy (a b : Ty) : Bool := if a = b then true else false
def Ty.eq : (t : Ty) → t.D → t.D → Option Bool
 | .unit, _, _ => some true
 | .int _, x, y => some (x == y)
 | .bool, x, y => some (x == y)
 | .str, x, y => some (x.toList == y.toList)
 | .sl _ _, _, _ => none
 | .any, _, _ => none
 | .clo _ _, _, _ => none
 | .osl _ _, _, _ => none
 | .pair a b, x, y => match a.eq x.1 y.1, b.eq x.2 y.2 with
  | some p, some q => some (p && q)
  | _, _ => none
def binP (dst : Option Nat) (op : BinOp) (T : Option Ty) (x y : PV) : Prog :=
 match x, y with
 | .val ⟨.int k, a, _⟩, .val ⟨.int k', b, _⟩ =>
  match op with
  | .shl | .shr => match binInt op k a b with
   | some (ok, r) => .chk ok (put dst (.val ⟨.int k, r, false⟩) .done)
   | none => .fail
  | _ => if k = k' then
    match cmpInt op a b with
    | some r => put dst (.val ⟨.bool, r, false⟩) .done
    | none => match binInt op k a b with
     | some (ok, r) => .chk ok (put dst (.val ⟨.int k, r, false⟩) .done)
     | none => .fail
   else .fail
 | .val ⟨.str, a, _⟩, .val ⟨.str, b, _⟩ =>
  match op with
  | .add => .chk (decide (a.size + b.size ≤ 140737488355328)) (put dst (.val ⟨.str, a ++ b, false⟩) .done)
  | .eql => put dst (.val ⟨.bool, a.toList == b.toList, false⟩) .done
  | .neq => put dst (.val ⟨.bool, !(a.toList == b.toList), false⟩) .done
  | _ => .fail
 | .val ⟨.bool, a, _⟩, .val ⟨.bool, b, _⟩ =>
  match T, op with
  | some .bool, .eql => put dst (.val ⟨.bool, a == b, false⟩) .done
  | some .bool, .neq => put dst (.val ⟨.bool, !(a == b), false⟩) .done
  | _, _ => .fail
 | .agg cs, .agg ds =>
  match T with
  | some t => bif t.isAgg && Nat.ble 1 t.sz then (match t.build cs, t.build ds with
   | some (a, []), some (b, []) => match t.eq a b, op with
    | some r, .eql => put dst (.val ⟨.bool, r, false⟩) .done
    | some r, .neq => put dst (.val ⟨.bool, !r, false⟩) .done
    | _, _ => .fail
   | _, _ => .fail) else .fail
  | none => .fail
 | _, _ => .fail
def lenMax : Nat := 140737488355328
def rowMax : Nat := 549755813888
def Ty.isSl : Ty → Bool
 | .sl _ _ => true
 | _ => false
def zeros (t : Ty) : List DV := (t.split t.zero).map fun d => ⟨d.t, d.x, d.t.isSl⟩
def putCells (cs : List DV) (o : Nat) (ds : List DV) : List DV := cs.take o ++ ds ++ cs.drop (o + ds.length)
def cellsAt (cs : List DV) (lo n : Nat) : List DV := (cs.drop lo).take n
def loadAs (t : Ty) (cs : List DV) (lo : Nat) : PV :=
 if t.isAgg then .agg ((cellsAt cs lo t.sz).map DV.clear)
 else match cs.drop lo with
  | d :: _ => .val d.clear
  | [] => .unk
def PV.cells : PV → Option (List DV)
 | .val d => some [d]
 | .agg cs => some cs
 | _ => none
def buildParts (T : Ty) : List (Nat × Operand) → List DV → (List DV → Prog) → Prog
 | [], cs, k => k cs
 | (i, x) :: l, cs, k => match T.fld i with
  | some (o, t) => getD t x fun y => buildParts T l (putCells cs o (t.split y)) k
  | none => .fail
def buildRow (r : Ty) (len : Nat) : List (Nat × Operand) → List r.D → (List r.D → Prog) → Prog
 | [], xs, k => k xs
 | (i, x) :: l, xs, k => .chk (Nat.ble (i + 1) len) <| getD r x fun y => buildRow r len l (xs.set i y) k
def getInt (x : Operand) (k : Int → Prog) : Prog :=
 getV x fun v => match v with
  | .val ⟨.int _, n, _⟩ => k n
  | _ => .fail
def getOptInt (x : Option Operand) (d : Int) (k : Int → Prog) : Prog :=
 match x with
 | some x => getInt x k
 | none => k d
def collectC : (ps : List Md) → (c : Ty) → c.D → ((tupTy ps).D → Prog) → Prog
 | [], .unit, _, k => k ()
 | .cap t :: ps, .pair p q, y, k => match (DV.mk p y.1 false).as t with
  | some x => collectC ps q y.2 fun z => k (x, z)
  | none => .fail
 | _, _, _, _ => .fail
def lendK (bxs : List Nat) (i : Nat) : (t : Ty) → Nat → List DV → (t.D → List DV → Prog) → Prog
 | .pair a b, k, cs, c => lendK bxs i a k cs fun x l => lendK bxs i b (k + a.sz) l fun y l => c (x, y) l
 | .osl e r, k, cs, c => match cs with
  | [] => .fail
  | d :: l => .chk (d.isLnk && (Nat.blt k 1000 && (r.plain && bxs.contains (lk i k)))) <| .get (.box (lk i k)) fun b => match b with
   | .row e' r' xs hv ver => match (DV.mk (.sl e' r') xs false).as (.sl e r) with
    | some y => .set (.box (lk i k)) (.gone hv (ver + 1)) (c y l)
    | none => .fail
   | _ => .fail
 | t, _, cs, c => match t.build cs with
  | some (y, l) => c y l
  | none => .fail
def backK (bxs : List Nat) (i : Nat) : List DV → Nat → Prog → Prog
 | [], _, p => p
 | ⟨.osl e r, y, _⟩ :: l, k, p => .get (.box (lk i k)) fun b => match b with
  | .gone hv ver => .chk (Nat.blt k 1000 && (r.plain && bxs.contains (lk i k))) <| .set (.box (lk i k)) (.row e r y (hv + 1) (ver + 1)) (backK bxs i l (k + 1) p)
  | _ => .fail
 | ⟨.any, _, _⟩ :: l, k, p => .get (.box (lk i k)) fun b => bif b.there then .fail else backK bxs i l (k + 1) p
 | _ :: l, k, p => backK bxs i l (k + 1) p
def collect (bxs : List Nat) (c : Ty) (cy : c.D) : (ps : List Md) → List Operand → ((tupTy ps).D → Prog) → Prog
 | ps, [], k => collectC ps c cy k
 | .val t :: ps, x :: xs, k => getD t x fun y => collect bxs c cy ps xs fun z => k (y, z)
 | .tip t :: ps, x :: xs, k => hand x fun v => match typed (some t) v with
  | .val ⟨t', y, true⟩ => match (DV.mk t' y true).as t with
   | some y' => collect bxs c cy ps xs fun z => k (y', z)
   | none => .fail
  | _ => .fail
 | .box T t :: ps, x :: xs, k => getV x fun v => match v with
  | .bptr i 0 => .get (.box i) fun b => match b with
   | .box T' cs ver => if T = T' then lendK bxs i t 0 cs (fun y l => match l with
     | [] => if bxs.contains i = false then .fail else .set (.box i) (.lent T ver) (collect bxs c cy ps xs fun z => k (y, z))
     | _ => .fail) else .fail
   | _ => .fail
  | _ => .fail
 | .nilp s :: ps, x :: xs, k => getV x fun v => match s, v with
  | false, .nilp => collect bxs c cy ps xs fun z => k ((), z)
  | true, .nil => collect bxs c cy ps xs fun z => k ((), z)
  | _, _ => .fail
 | .take e r :: ps, x :: xs, k => getV x fun v => match v with
  | .hdr j hv => .get (.box j) fun b => match b with
   | .row e' r' ys hv' ver => match (DV.mk (.sl e' r') ys false).as (.sl e r) with
    | some y => .chk (Nat.beq hv hv') <| if bxs.contains j = false then .fail else .set (.box j) (.gone hv (ver + 1)) (collect bxs c cy ps xs fun z => k (y, z))
    | none => .fail
   | _ => .fail
  | _ => .fail
 | .own e r :: ps, x :: xs, k => getV x fun v => match v with
  | .hdr j hv => .get (.box j) fun b => match b with
   | .row e' r' ys hv' ver => match (DV.mk (.sl e' r') ys false).as (.sl e r) with
    | some y => .chk (Nat.beq hv hv') <| if bxs.contains j = false then .fail else .set (.box j) (.lrow r y.length hv ver) (collect bxs c cy ps xs fun z => k (y, z))
    | none => .fail
   | _ => .fail
  | _ => .fail
 | _, _ :: _, _ => .fail
def argKey (xs : List Operand) (g : Nat) (k : Nat → Prog) : Prog :=
 match xs with
 | [] => k g
 | x :: l => getV x fun v => match v with
  | .nilp => k (g + 1000000)
  | .fn h => k (g + 1000000 * (2 + h))
  | .val ⟨.clo h _, _, _⟩ => k (g + 1000000 * (2 + h))
  | .hdr _ _ => k (g + 1000000000000)
  | _ => argKey l g k
def backBoxes (bxs : List Nat) : (ps : List Md) → List Operand → (tupTy (ps.filter Md.isBox)).D → Prog → Prog
 | .box T t :: ps, x :: xs, z, k => getV x fun v => match v with
  | .bptr i 0 => .get (.box i) fun b => match b with
   | .lent _ ver => if bxs.contains i then backK bxs i (t.split z.1) 0 (.set (.box i) (.box T (lnkCells (t.split z.1)) (ver + 1)) (backBoxes bxs ps xs z.2 k)) else .fail
   | _ => .fail
  | _ => .fail
 | .val _ :: ps, _ :: xs, z, k => backBoxes bxs ps xs z k
 | .tip _ :: ps, _ :: xs, z, k => backBoxes bxs ps xs z k
 | .nilp _ :: ps, _ :: xs, z, k => backBoxes bxs ps xs z k
 | .take _ _ :: ps, _ :: xs, z, k => backBoxes bxs ps xs z k
 | .own e r :: ps, x :: xs, z, k => getV x fun v => match v with
  | .hdr j hv => .get (.box j) fun b => match b with
   | .lrow r' _ hv' ver => .chk (Nat.beq hv hv') <| .chk (eqTy r' r && r.plain) <| if bxs.contains j then .set (.box j) (.row e r z.1 hv (ver + 1)) (backBoxes bxs ps xs z.2 k) else .fail
   | _ => .fail
  | _ => .fail
 | .cap _ :: ps, [], z, k => backBoxes bxs ps [] z k
 | [], _, _, k => k
 | _, _, _, _ => .fail
def splitR : (rs bs : List Md) → (tupTy (rs ++ bs)).D → (tupTy rs).D × (tupTy bs).D
 | [], _, z => ((), z)
 | _ :: rs, bs, z => ((z.1, (splitR rs bs z.2).1), (splitR rs bs z.2).2)
def tupVals : (rs : List Md) → (tupTy rs).D → Option (List (Bool × List DV))
 | [], _ => some []
 | .val t :: rs, x => match tupVals rs x.2 with
  | some l => some ((t.isAgg, t.split x.1) :: l)
  | none => none
 | .own _ _ :: rs, x => match tupVals rs x.2 with
  | some l => some ((false, [⟨.any, (), false⟩]) :: l)
  | none => none
 | _ :: _, _ => none
def placeRow0 (d : Nat) (e : TypeId) (r : Ty) (xs : List r.D) (k : Nat → Prog) : Prog :=
 .get (.box d) fun b => match b with
  | .unk => .set (.box d) (.row e r xs 0 0) (k 0)
  | .gone hv ver => .set (.box d) (.row e r xs (hv + 1) (ver + 1)) (k (hv + 1))
  | .row _ _ _ hv ver => .set (.box d) (.row e r xs (hv + 1) (ver + 1)) (k (hv + 1))
  | _ => .fail
def placeRow (d : Nat) (e : TypeId) (r : Ty) (xs : List r.D) (k : Nat → Prog) : Prog := .chk r.plain (placeRow0 d e r xs k)
def putRow (d : Nat) (e : TypeId) (r : Ty) (xs : List r.D) : Prog :=
 placeRow d e r xs fun hv => .set (.slot d) (.hdr d hv) .done
def ownAt : Nat → (rs : List Md) → (tupTy rs).D → Option (Nat × ((_ : TypeId) × (r : Ty) × List r.D))
 | _, [], _ => none
 | i, .own e r :: _, x => some (i, ⟨e, r, x.1⟩)
 | i, _ :: rs, x => ownAt (i + 1) rs x.2
def isVal : Md → Bool
 | .val _ => true
 | _ => false
def isOwn : Md → Bool
 | .own _ _ => true
 | _ => false
def tupPut (dst : Option Nat) (rs : List Md) (x : (tupTy rs).D) : Prog :=
 match tupVals rs x with
  | some vs => match ownAt 0 rs x with
   | none => put dst (.tup vs) .done
   | some (i, ⟨e, r, xs⟩) => .chk (Nat.beq (rs.countP isOwn) 1) <| match dst with
    | some d => placeRow d e r xs fun hv => .set (.slot d) (.tupr vs i d hv) .done
    | none => .fail
  | none => .fail
def oslAt : List DV → Nat → Option (Nat × ((_ : TypeId) × (r : Ty) × List r.D))
 | [], _ => none
 | ⟨.osl e r, y, _⟩ :: _, k => some (k, ⟨e, r, y⟩)
 | _ :: l, k => oslAt l (k + 1)
def freeK (d : Nat) : List DV → Nat → Prog → Prog
 | [], _, p => p
 | c :: l, k, p => bif c.isLnk then .get (.box (lk d k)) fun b => bif b.there then .fail else freeK d l (k + 1) p else freeK d l (k + 1) p
def oneRes (dst : Option Nat) (rs : List Md) (x : (tupTy rs).D) : Prog :=
 match rs, x with
 | [.val t], x => put dst (PV.of t x.1) .done
 | [.tip (.sl e r)], x => put dst (.val ⟨.sl e r, x.1, true⟩) .done
 | [.own e r], x => match dst with
  | some d => putRow d e r x.1
  | none => .fail
 | [.str t], x => match dst, oslAt (t.split x.1) 0 with
  | some d, some (k, ⟨e, r, xs⟩) => .chk t.isAgg <| placeRow d e r xs fun hv => .set (.slot d) (.aggh (lnkCells (t.split x.1)) [(k, (d, hv))]) .done
  | _, _ => .fail
 | [.box T t], x => match dst with
  | some d => freeK d (t.split x.1) 0 <| .get (.box d) fun b => match b with
   | .unk => .set (.box d) (.box T (t.split x.1) 0) (.set (.slot d) (.bptr d 0) .done)
   | _ => .fail
  | none => .fail
 | rs, x => tupPut dst rs x
def isTip (G : Ctx) : Option Nat → Bool
 | some d => G.tips.contains d
 | none => false
def ptrNil (G : Ctx) (dst : Option Nat) (op : BinOp) (t : TypeId) (b : Bool) : Prog :=
 bif G.ptrs.contains t then (match op with
  | .eql => put dst (.val ⟨.bool, b, false⟩) .done
  | .neq => put dst (.val ⟨.bool, !b, false⟩) .done
  | _ => .fail) else .fail
def slNil (G : Ctx) (dst : Option Nat) (op : BinOp) (t : TypeId) (b : Bool) : Prog :=
 match look t G.ty with
 | some (.sl _ _) => (match op with
  | .eql => put dst (.val ⟨.bool, !b, false⟩) .done
  | .neq => put dst (.val ⟨.bool, b, false⟩) .done
  | _ => .fail)
 | _ => .fail
def captOf (G : Ctx) (B : TypeId) (cs : List DV) : Option ((t : Ty) × t.D) :=
 match cs with
 | [d] => bif d.t.isAgg then none else some ⟨d.t, d.x⟩
 | cs => match look B G.ty with
  | some T => match T.build cs with
   | some (y, []) => some ⟨T, y⟩
   | _ => none
  | none => none
def captP (G : Ctx) : List Operand → ((c : Ty) → c.D → Prog) → Prog
 | [], k => k .unit ()
 | x :: xs, k => getV x fun v => match v with
  | .bptr i 0 => .get (.box i) fun b => match b with
   | .box B cs ver => match captOf G B cs with
    | some ⟨t, y⟩ => bif G.bxs.contains i then .set (.box i) (.frz B (cs.map DV.clear) ver) (captP G xs fun c z => k (.pair t c) (y, z)) else .fail
    | none => .fail
   | .frz B cs _ => match captOf G B cs with
    | some ⟨t, y⟩ => captP G xs fun c z => k (.pair t c) (y, z)
    | none => .fail
   | _ => .fail
  | _ => .fail
def callP (G : Ctx) (dst : Option Nat) (args : List Operand) (g : FuncId) (c : Ty) (cy : c.D) : Prog :=
 .chk (Nat.blt g 1000000) <| argKey args g fun key => match look key G.fns with
  | some S => .chk (Nat.ble S.ps.length 1000000) <| collect G.bxs c cy S.ps args fun z =>
    .bind (S.run z) fun r =>
     backBoxes G.bxs S.ps args (splitR S.rs (S.ps.filter Md.isBox) r).2 (oneRes dst S.rs (splitR S.rs (S.ps.filter Md.isBox) r).1)
  | none => .fail
def opV (G : Ctx) (o : Oper) : Prog :=
 match o.op with
 | .move x =>
  bif isTip G o.dst then hand x fun v => put o.dst (typed (look o.type G.ty) v) .done
  else getV x fun v => put o.dst (typed (look o.type G.ty) v).clear .done
 | .assign x => hand x fun v => put o.dst (typed (look o.type G.ty) v) .done
 | .pick c a b => getD .bool c fun t => getV a fun u => getV b fun v =>
   match u, v, t with
   | .val ⟨.bool, x, _⟩, .val ⟨.bool, y, _⟩, t => put o.dst (.val ⟨.bool, bif t then x else y, false⟩) .done
   | .undef, v, false => put o.dst v.clear .done
   | u, .undef, true => put o.dst u.clear .done
   | _, _, _ => .fail
 | .alloc t => match o.dst, look t G.ty with
  | some d, some T => freeK d (zeros T) 0 <| .get (.box d) fun b => match b with
   | .unk => .set (.box d) (.box t (zeros T) 0) (put o.dst (.bptr d 0) .done)
   | _ => .fail
  | _, _ => .fail
 | .box t x => match o.dst, look t G.ty with
  | some d, some T => getD T x fun y => freeK d (T.split y) 0 <| .get (.box d) fun b => match b with
   | .unk => .set (.box d) (.box t (T.split y) 0) (put o.dst (.bptr d 0) .done)
   | _ => .fail
  | _, _ => .fail
 | .build t parts => match look t G.ty with
  | some T => .chk T.isAgg <| buildParts T parts.toList (zeros T) fun cs => put o.dst (.agg cs) .done
  | none => .fail
 | .buildSlice t len parts => match look t G.ty with
  | some (.sl e r) => if len * r.sz ≤ 65536 then
    buildRow r len parts.toList (List.replicate len r.zero) fun xs => put o.dst (.exact ⟨.sl e r, xs, false⟩) .done
   else .fail
  | _ => .fail
 | .load t a => match look t G.ty with
  | some T => .chk (Nat.ble 1 T.sz) <| getV a fun v => match v with
   | .bptr i lo => .get (.box i) fun b => match b with
    | .box B cs ver => bif isTip G o.dst then (match cs.drop lo with
      | ⟨.sl e r, xs, true⟩ :: _ => bif (G.bxs.contains i && eqTy T (.sl e r)) then .set (.box i) (.box B (putCells cs lo [⟨.sl e r, xs, false⟩]) (ver + 1)) (put o.dst (.val ⟨.sl e r, xs, true⟩) .done) else .fail
      | _ => .fail)
     else if lo + T.sz ≤ cs.length then put o.dst (loadAs T cs lo) .done else .fail
    | .frz _ cs _ => if lo + T.sz ≤ cs.length then put o.dst (loadAs T cs lo) .done else .fail
    | _ => .fail
   | .eptr cs => if T.sz ≤ cs.length then put o.dst (loadAs T cs 0) .done else .fail
   | _ => .fail
  | none => .fail
 | .store t a x => match look t G.ty with
  | some T => .chk (!o.dst.isSome) <| getV a fun v => match v with
   | .bptr i lo => if G.bxs.contains i = false then .fail else hand x fun u => .get (.box i) fun b => match b with
    | .box B cs ver => match (typed (some T) u) with
     | .val d => if ((d.t = T ∨ T = .any) ∧ d.isLnk = false) ∧ lo < cs.length then .set (.box i) (.box B (putCells cs lo [d]) (ver + 1)) .done else .fail
     | .full d _ => if (d.t = T ∧ d.isLnk = false) ∧ lo < cs.length then .set (.box i) (.box B (putCells cs lo [d.clear]) (ver + 1)) .done else .fail
     | .fn f => if T = .any ∧ lo < cs.length then .set (.box i) (.box B (putCells cs lo [⟨.clo f .unit, (), false⟩]) (ver + 1)) .done else .fail
     | .agg ds => match T.build ds with
      | some (_, []) => if noLnk ds = true ∧ lo + T.sz ≤ cs.length then .set (.box i) (.box B (putCells cs lo ds) (ver + 1)) .done else .fail
      | _ => .fail
     | _ => .fail
    | _ => .fail
   | _ => .fail
  | none => .fail
 | .nilCheck x => getV x fun v => match v with
  | .bptr i lo => put o.dst (.bptr i lo) .done
  | .eptr cs => put o.dst (.eptr cs) .done
  | .fn g => put o.dst (.fn g) .done
  | .val ⟨.clo h c, y, _⟩ => put o.dst (.val ⟨.clo h c, y, false⟩) .done
  | _ => .fail
 | .makeFunc (.func f) first captured => match first.toList, o.dst with
  | [], some _ => captP G captured.toList fun c y => put o.dst (.val ⟨.clo f c, y, false⟩) .done
  | _, _ => .fail
 | .binOp op t x y _ => getV x fun a => getV y fun b => match a, b with
  | .full _ b, .nil => slNil G o.dst op t b
  | .bptr _ _, .nilp => ptrNil G o.dst op t false
  | .eptr _, .nilp => ptrNil G o.dst op t false
  | .nilp, .nilp => ptrNil G o.dst op t true
  | a, b => binP o.dst op (look t G.ty) a b
 | .unOp op _ x => getV x fun v => match op, v with
  | .not, .val ⟨.bool, b, _⟩ => put o.dst (.val ⟨.bool, !b, false⟩) .done
  | .neg, .val ⟨.int k, n, _⟩ => put o.dst (.val ⟨.int k, k.wrap (0 - n), false⟩) .done
  | _, _ => .fail
 | .convert src dst x => match look src G.ty, look dst G.ty with
  | some (.sl e (.int .u8)), some .str => getD (.sl e (.int .u8)) x fun xs => put o.dst (.val ⟨.str, strOfNums xs, false⟩) .done
  | some (.sl e (.int .u8)), some (.sl _ _) => .chk (Nat.beq src dst) <| match x with
   | .tmp t => .get (.slot t) fun v => match v with
    | .exact ⟨ty, y, _⟩ => .chk (eqTy ty (.sl e (.int .u8))) <| .set (.slot t) (.val ⟨ty, y, false⟩) (put o.dst (.val ⟨ty, y, true⟩) .done)
    | _ => .fail
   | _ => .fail
  | some _, some (.int k) => getV x fun v => match v with
   | .val ⟨.int _, n, _⟩ => put o.dst (.val ⟨.int k, k.wrap n, false⟩) .done
   | _ => .fail
  | some _, some .str => getD .str x fun s => put o.dst (.val ⟨.str, s, false⟩) .done
  | _, _ => .fail
 | .slice t x lo hi none => match look t G.ty with
  | some (.sl e r) => getD (.sl e r) x fun xs => getOptInt lo 0 fun l => getOptInt hi xs.length fun h =>
    .chk (decide (0 ≤ l) && decide (l ≤ h) && decide (h ≤ xs.length)) (put o.dst (.val ⟨.sl e r, (xs.take h.toNat).drop l.toNat, false⟩) .done)
  | _ => .fail
 | .slice t x none (some hi) (some mx) => match look t G.ty with
  | some (.sl e r) => getD (.sl e r) x fun xs => getInt hi fun h => getInt mx fun m =>
    .chk (decide (h = xs.length) && decide (m = xs.length)) (put o.dst (.val ⟨.sl e r, xs, false⟩) .done)
  | _ => .fail
 | .fieldAddr t x f => match look t G.ty with
  | some T => match T.fld f with
   | some (off, ft) => getV x fun v => match v with
    | .bptr i lo => put o.dst (.bptr i (lo + off)) .done
    | .eptr cs => if off + ft.sz ≤ cs.length then put o.dst (.eptr (cellsAt cs off ft.sz)) .done else .fail
    | _ => .fail
   | none => .fail
  | none => .fail
 | .field t x f => match look t G.ty with
  | some T => match T.fld f with
   | some (off, ft) => getV x fun v => match v with
    | .agg cs => if off + ft.sz ≤ cs.length then put o.dst (loadAs ft cs off) .done else .fail
    | _ => .fail
   | none => .fail
  | none => .fail
 | .indexAddr t x i => match look t G.ty with
  | some (.sl e r) => getD (.sl e r) x fun xs => getInt i fun n =>
    .chk (decide (0 ≤ n) && decide (n < xs.length)) (put o.dst (.eptr (r.split (xs.getD n.toNat r.zero))) .done)
  | _ => .fail
 | .extract x i => getV x fun v => match v with
  | .tup vs => match vs.drop i with
   | (true, cs) :: _ => put o.dst (.agg (cs.map DV.clear)) .done
   | (false, [d]) :: _ => put o.dst (.val d.clear) .done
   | _ => .fail
  | _ => .fail
 | .call c => match c.callee with
  | .builtin .len => match c.args.toList, c.argTypes.toList with
   | [x], [t] => match look t G.ty with
    | some (.sl e r) => getD (.sl e r) x fun xs => put o.dst (.val ⟨.int .i64, (xs.length : Int), false⟩) .done
    | some .str => getD .str x fun s => put o.dst (.val ⟨.int .i64, (s.size : Int), false⟩) .done
    | _ => .fail
   | _, _ => .fail
  | .builtin .max => match c.args.toList with
   | [x, y] => getV x fun u => getV y fun v => match u, v with
    | .val ⟨.int k, a, _⟩, .val ⟨.int k', b, _⟩ => if k = k' then put o.dst (.val ⟨.int k, max a b, false⟩) .done else .fail
    | _, _ => .fail
   | _ => .fail
  | .builtin .min => match c.args.toList with
   | [x, y] => getV x fun u => getV y fun v => match u, v with
    | .val ⟨.int k, a, _⟩, .val ⟨.int k', b, _⟩ => if k = k' then put o.dst (.val ⟨.int k, min a b, false⟩) .done else .fail
    | _, _ => .fail
   | _ => .fail
  | .builtin .append => match c.args.toList, c.argTypes.toList with
   | [x, y], [t, t'] => if t = t' then (match look t G.ty with
    | some (.sl e r) => hand x fun v => match typed (some (.sl e r)) v with
     | .val ⟨te, xs, true⟩ => match (DV.mk te xs true).as (.sl e r) with
      | some xs => getD (.sl e r) y fun ys =>
       .chk (decide (xs.length + ys.length < rowMax)) (put o.dst (.val ⟨.sl e r, xs ++ ys, true⟩) .done)
      | none => .fail
     | _ => .fail
    | _ => .fail) else .fail
   | _, _ => .fail
  | .value x => getV x fun v => match v with
   | .fn g => callP G o.dst c.args.toList g .unit ()
   | .val ⟨.clo g cc, y, _⟩ => callP G o.dst c.args.toList g cc y
   | _ => .fail
  | _ => .fail
 | _ => .fail
def nth {α : Type} : List α → Nat → Option α
 | [], _ => none
 | x :: _, 0 => some x
 | _ :: l, n + 1 => nth l n
def seeRow (j hv : Nat) (k : (e : TypeId) → (r : Ty) → List r.D → Nat → Prog) : Prog :=
 .get (.box j) fun b => match b with
  | .row e r xs hv' ver => .chk (Nat.beq hv hv') (k e r xs ver)
  | _ => .fail
def subAt (r : Ty) (x : r.D) (off : Nat) : Option ((_ : TypeId) × (r2 : Ty) × List r2.D) :=
 match nth (r.split x) off with
 | some ⟨.osl e2 r2, y, _⟩ => some ⟨e2, r2, y⟩
 | _ => none
def seeSub (j hv ver i off : Nat) (k : (e : TypeId) → (r : Ty) → List r.D → (e2 : TypeId) → (r2 : Ty) → List r2.D → Prog) : Prog :=
 .get (.box j) fun b => match b with
  | .row e r xs hv' ver' => .chk (Nat.beq hv hv' && Nat.beq ver ver') <| match subAt r (xs.getD i r.zero) off with
   | some ⟨e2, r2, y⟩ => k e r xs e2 r2 y
   | none => .fail
  | _ => .fail
def moveRow (G : Ctx) (d : Nat) (x : Operand) (t : TypeId) : Prog :=
 getV x fun v => match v with
  | .hdr j hv => seeRow j hv fun e r xs ver => bif G.bxs.contains j then .set (.box j) (.gone hv (ver + 1)) (putRow d e r xs) else .fail
  | .nil => match look t G.ty with
   | some (.sl e r) => putRow d e r []
   | _ => .fail
  | _ => .fail
def nestRow (d : Nat) (e : TypeId) (r : Ty) (n : Nat) : Prog :=
 placeRow0 d e r.nest (List.replicate n r.nest.zero) fun hv => .set (.slot d) (.hdr d hv) .done
def moveIn (G : Ctx) (T : Ty) (j hv i off : Nat) (s hs : Nat) : Prog :=
 seeRow j hv fun e r xs ver => match subAt r (xs.getD i r.zero) off with
  | some ⟨e2, r2, _⟩ => .chk (eqTy T (.sl e2 r2) && r2.plain && !Nat.beq j s && G.bxs.contains j && (Nat.ble (j + 1) 1000000 && G.bxs.contains s)) <| seeRow s hs fun e2' r2' ys ver2 =>
   match (DV.mk (.sl e2' r2') ys false).as (.sl e2 r2) with
   | some y => match r.build (putCells (r.split (xs.getD i r.zero)) off [⟨.osl e2 r2, y, false⟩]) with
    | some (z, []) => .set (.box s) (.gone hs (ver2 + 1)) (.set (.box j) (.row e r (xs.set i z) hv (ver + 1)) .done)
    | _ => .fail
   | none => .fail
  | none => .fail
def holeIn (G : Ctx) (T : Ty) (j hv i off : Nat) (s hs : Nat) : Prog :=
 seeRow j hv fun e r xs ver => match nth (r.split (xs.getD i r.zero)) off with
  | some ⟨.sl e2 r2, _, _⟩ => .chk (eqTy T (.sl e2 r2) && (r2.plain && (r.plain && (!Nat.beq j s && (Nat.ble 2000000 j && (G.bxs.contains j && G.bxs.contains s)))))) <| seeRow s hs fun e2' r2' ys ver2 =>
   match (DV.mk (.sl e2' r2') ys false).as (.sl e2 r2) with
   | some y => .set (.box s) (.gone hs (ver2 + 1)) (.set (.box j) (.hole e r xs hv (ver + 1) i off e2 r2 y) .done)
   | none => .fail
  | _ => .fail
def isThaw (G : Ctx) : Option Nat → Bool
 | some d => G.thaws.contains d
 | none => false
def isRowDst (G : Ctx) : Option Nat → Option Nat
 | some d => bif G.rows.contains d then some d else none
 | none => none
def keyOk (a : Int) : Bool := decide (-9223372036854775808 ≤ a) && decide (a ≤ 9223372036854775807)
def getKey (x : Operand) (k : Int → Prog) : Prog :=
 getV x fun v => match v with
  | .val ⟨.int .i64, n, _⟩ => .chk (keyOk n) (k n)
  | _ => .fail
def getSet (G : Ctx) (x : Operand) (k : Nat → List Int → Nat → Prog) : Prog :=
 getV x fun v => match v with
  | .mptr j => .get (.box j) fun b => match b with
   | .set ks true ver => .chk (G.bxs.contains j) (k j ks ver)
   | _ => .fail
  | _ => .fail
def memI (a : Int) : List Int → Bool
 | [] => false
 | b :: l => (a == b) || memI a l
def dedupI : List Int → List Int
 | [] => []
 | a :: l => bif memI a (dedupI l) then dedupI l else a :: dedupI l
def putKeyP (G : Ctx) (dst : Option Nat) (t : TypeId) (m x v : Operand) : Prog :=
 .chk (G.sets.contains t && !dst.isSome) <| getSet G m fun j ks ver => getKey x fun a => getD .unit v fun _ =>
  .chk (decide (ks.length < rowMax)) <| .set (.box j) (.set (ks ++ [a]) true (ver + 1)) .done
def mapP (G : Ctx) (o : Oper) : Prog :=
 match o.op with
 | .makeMap t none => match o.dst with
  | some d => .chk (G.sets.contains t) <| .get (.box d) fun b => match b with
   | .unk => .set (.box d) (.set [] true 0) (put o.dst (.mptr d) .done)
   | _ => .fail
  | none => .fail
 | .mapUpdate t m x v => putKeyP G o.dst t m x v
 | .insert t m x v => putKeyP G o.dst t m x v
 | .lookup t m x true => .chk (G.sets.contains t) <| getSet G m fun _ ks _ => getKey x fun a =>
   put o.dst (.tup [(true, []), (false, [⟨.bool, memI a ks, false⟩])]) .done
 | .range t m => match o.dst with
  | some d => .chk (G.sets.contains t) <| getSet G m fun j ks ver => .get (.box d) fun b => match b with
   | .unk => .set (.box j) (.set ks false (ver + 1)) <| .set (.box d) (.iter (dedupI ks) none 0) (put o.dst (.itr d) .done)
   | _ => .fail
  | none => .fail
 | .entry x => getV x fun v => match v with
  | .itr j => .get (.box j) fun b => match b with
   | .iter _ (some a) _ => put o.dst (.tup [(false, [⟨.int .i64, a, false⟩]), (true, [])]) .done
   | _ => .fail
  | _ => .fail
 | _ => .fail
noncomputable def allSame {R : Type} (l : List Int) (f : Int → Option R) : Option R :=
 open Classical in if h : ∃ r, ∀ x ∈ l, f x = some r then some h.choose else none
noncomputable def nextOf {R : Type} (l : List Int) (a : Option R) (f : Int → Option R) : Option R :=
 match l with
 | [] => a
 | x :: l => allSame (x :: l) f
def memB (n : Nat) : List Nat → Bool
 | [] => false
 | m :: l => Nat.beq n m || memB n l
def lookL {α : Type} (n : Nat) : List (Nat × α) → Option α
 | [] => none
 | (m, a) :: l => bif Nat.beq n m then some a else lookL n l
def buildH (T : Ty) : List (Nat × Operand) → List DV → List (Nat × (Nat × Nat)) → (List DV → List (Nat × (Nat × Nat)) → Prog) → Prog
 | [], cs, hs, k => k cs hs
 | (i, x) :: l, cs, hs, k => match T.fld i with
  | some (o, t) => getV x fun v => match v with
   | .hdr j hv => seeRow j hv fun e r _ _ => .chk (eqTy t (.sl e r) && hs.all (fun h => Nat.blt h.1 o || Nat.blt o h.1)) <| buildH T l (putCells cs o [lnkDV]) ((o, (j, hv)) :: hs) k
   | _ => getD t x fun y => .chk (hs.all (fun h => Nat.blt h.1 o || Nat.ble (o + t.sz) h.1)) <| buildH T l (putCells cs o (t.split y)) hs k
  | none => .fail
def linkK (G : Ctx) (d : Nat) (hs : List (Nat × (Nat × Nat))) : List Nat → List DV → (List DV → Prog) → Prog
 | [], cs, c => c cs
 | k :: ks, cs, c => .chk (Nat.blt k 1000 && G.bxs.contains (lk d k)) <| match lookL k hs with
  | some (j, hv) => seeRow j hv fun e r xs ver => .chk (r.plain && (G.bxs.contains j && Nat.blt j 2000000)) <| .set (.box j) (.gone hv (ver + 1)) <|
    placeRow0 (lk d k) e r xs fun _ => linkK G d hs ks cs c
  | none => match nth cs k with
   | some ⟨.sl e r, _, true⟩ => .chk r.plain <| placeRow0 (lk d k) e r [] fun _ => linkK G d hs ks (putCells cs k [lnkDV]) c
   | _ => .fail
def lnkIn (ks : List Nat) : List DV → Nat → Bool
 | [], _ => true
 | d :: l, k => (!d.isLnk || memB k ks) && lnkIn ks l (k + 1)
def boxH (G : Ctx) (dst : Option Nat) (d : Nat) (t : TypeId) (ks : List Nat) (cs : List DV) (hs : List (Nat × (Nat × Nat))) : Prog :=
 .get (.box d) fun b => match b with
  | .unk => linkK G d hs ks cs fun cs' => .chk (lnkIn ks cs' 0) <| .set (.box d) (.box t cs' 0) (put dst (.bptr d 0) .done)
  | _ => .fail
def storeK (G : Ctx) (T : Ty) (i lo s hs : Nat) : Prog :=
 seeRow s hs fun e r xs ver => .chk (eqTy T (.sl e r) && (r.plain && (G.bxs.contains s && (G.bxs.contains (lk i lo) && (Nat.blt lo 1000 && (Nat.blt s 2000000 && G.bxs.contains i)))))) <|
  .set (.box s) (.gone hs (ver + 1)) <| placeRow0 (lk i lo) e r xs fun _ => .done
def putH (G : Ctx) (T : Ty) (i lo k : Nat) (cs : List DV) (B : TypeId) (cs0 : List DV) (ver : Nat) (e : TypeId) (r : Ty) (xs : List r.D) : Prog :=
 .chk (r.plain && (G.bxs.contains (lk i (lo + k)) && (Nat.blt (lo + k) 1000 && (G.bxs.contains i && (lnkIn [k] cs 0 && (Nat.beq cs.length T.sz && Nat.ble (lo + T.sz) cs0.length)))))) <| .get (.box (lk i (lo + k))) fun q => match q with
   | .row _ _ _ h2 v2 => .set (.box (lk i (lo + k))) (.gone h2 (v2 + 1)) <| .set (.box i) (.box B (putCells cs0 lo cs) (ver + 1)) <| placeRow0 (lk i (lo + k)) e r xs fun _ => .done
   | .unk => .set (.box i) (.box B (putCells cs0 lo cs) (ver + 1)) <| placeRow0 (lk i (lo + k)) e r xs fun _ => .done
   | .gone _ _ => .set (.box i) (.box B (putCells cs0 lo cs) (ver + 1)) <| placeRow0 (lk i (lo + k)) e r xs fun _ => .done
   | _ => .fail
def storeF (G : Ctx) (T : Ty) (i lo k j hv : Nat) (cs : List DV) (B : TypeId) (cs0 : List DV) (ver : Nat) : Prog :=
 seeRow j hv fun e r xs ver1 => .chk (G.bxs.contains j && !Nat.beq j (lk i (lo + k))) <|
  .set (.box j) (.gone hv (ver1 + 1)) <| putH G T i lo k cs B cs0 ver e r xs
def storeN (G : Ctx) (T : Ty) (i lo k : Nat) (cs : List DV) (B : TypeId) (cs0 : List DV) (ver : Nat) : Prog :=
 match nth cs k with
 | some ⟨.sl e r, _, true⟩ => putH G T i lo k (putCells cs k [lnkDV]) B cs0 ver e r []
 | _ => .fail
def loadH (dst : Option Nat) (T : Ty) (i lo : Nat) (ks : List Nat) (cs : List DV) : Prog :=
 match ks with
 | [k] => .chk (Nat.blt (lo + k) 1000 && (cellLnk cs (lo + k) && (Nat.blt k T.sz && Nat.ble (lo + T.sz) cs.length))) <| .get (.box (lk i (lo + k))) fun q => match q with
  | .row _ _ _ hv _ => put dst (.aggh ((cellsAt cs lo T.sz).map DV.clear) [(k, (lk i (lo + k), hv))]) .done
  | _ => .fail
 | _ => .fail
def thawK (G : Ctx) (i lo : Nat) : List Nat → List DV → (List DV → Prog) → Prog
 | [], cs, c => c cs
 | k :: ks, cs, c => .get (.box (lk i (lo + k))) fun b => match b with
  | .row e r xs hv ver => .chk (r.plain && (G.bxs.contains (lk i (lo + k)) && (cellLnk cs (lo + k) && Nat.blt (lo + k) 1000))) <|
    .set (.box (lk i (lo + k))) (.gone hv (ver + 1)) (thawK G i lo ks (putCells cs (lo + k) [⟨.sl e r, xs, false⟩]) c)
  | .hole e r xs hv ver ii off e2 r2 ys => match r.build (putCells (r.split (xs.getD ii r.zero)) off [⟨.sl e2 r2, ys, false⟩]) with
   | some (z, []) => .chk (r.plain && (G.bxs.contains (lk i (lo + k)) && (cellLnk cs (lo + k) && Nat.blt (lo + k) 1000))) <|
     .set (.box (lk i (lo + k))) (.gone hv (ver + 1)) (thawK G i lo ks (putCells cs (lo + k) [⟨.sl e r, xs.set ii z, false⟩]) c)
   | _ => .fail
  | _ => .fail
def isFrz (G : Ctx) : Option Nat → Bool
 | some d => G.thaws.contains (d + 1000000)
 | none => false
def isLend (G : Ctx) : Option Nat → Bool
 | some d => G.thaws.contains (d + 3000000)
 | none => false
def isBare (G : Ctx) : Option Nat → Bool
 | some d => G.thaws.contains (d + 2000000)
 | none => false
def rowVal (cs : List DV) (k : Nat) (e : TypeId) (r : Ty) (xs : List r.D) : List DV := putCells cs k [⟨.sl e r, xs, false⟩]
def lendArgs : (ps : List Md) → List Operand → ((tupTy ps).D → Prog) → Prog
 | [], [], k => k ()
 | .val t :: ps, x :: xs, k => getD t x fun y => lendArgs ps xs fun z => k (y, z)
 | _, _, _ => .fail
def Ty.here : Ty → Bool
 | .unit => true
 | .int _ => true
 | .bool => true
 | .str => true
 | .pair a b => a.here && b.here
 | _ => false
def Md.here : Md → Bool
 | .val t => t.here
 | .own _ r => r.here
 | _ => false
def lendP (G : Ctx) (dst : Option Nat) (g : FuncId) (xs : List Operand) (cs : List DV) (k j hv : Nat) : Prog :=
 .chk (Nat.blt g 1000000) <| match look (g + 2000000000000) G.fns with
  | some ⟨.val t :: ps, rs, run⟩ => .chk (t.isAgg && (ps.all isVal && rs.all Md.here)) <| seeRow j hv fun e r ys _ => .chk r.plain <|
    match t.build (rowVal cs k e r ys) with
    | some (y, []) => lendArgs ps xs fun z => .bind (run (y, z)) fun x => oneRes dst rs (splitR rs ((.val t :: ps).filter Md.isBox) x).1
    | _ => .fail
  | _ => .fail
def boxF (G : Ctx) (dst : Option Nat) (t : TypeId) (x : Operand) : Prog :=
 match dst, look t G.ty with
 | some d, some T => getD T x fun y => freeK d (T.split y) 0 <| .get (.box d) fun b => match b with
  | .unk => .set (.box d) (.frz t (T.split y) 0) (put dst (.bptr d 0) .done)
  | _ => .fail
 | _, _ => .fail
def rowP (G : Ctx) (o : Oper) : Prog :=
 match o.op with
 | .build t parts => match look t G.lnks with
  | none => opV G o
  | some _ => bif isBare G o.dst then opV G o else match look t G.ty with
   | some T => .chk T.isAgg <| buildH T parts.toList (zeros T) [] fun cs hs => put o.dst (.aggh cs hs) .done
   | none => .fail
 | .box t x => bif isFrz G o.dst then boxF G o.dst t x else match look t G.lnks, o.dst with
  | some ks, some d => getV x fun v => match v with
   | .aggh cs hs => boxH G o.dst d t ks cs hs
   | _ => opV G o
  | _, _ => opV G o
 | .alloc t => match look t G.lnks, o.dst with
  | some ks, some d => bif isBare G o.dst then opV G o else match look t G.ty with
   | some T => boxH G o.dst d t ks (zeros T) []
   | none => .fail
  | _, _ => opV G o
 | .move x => match isRowDst G o.dst with
  | some d => moveRow G d x o.type
  | none => bif isFrz G o.dst then (getV x fun v => match v with
   | .nil => put o.dst .nil .done
   | _ => opV G o) else opV G o
 | .assign x => match isRowDst G o.dst with
  | some d => moveRow G d x o.type
  | none => opV G o
 | .makeSlice t len cap => match isRowDst G o.dst, look t G.ty with
  | some d, some (.sl e r) => getInt len fun l => getInt cap fun c => .chk (decide (0 ≤ l) && decide (l ≤ c) && decide (c < rowMax)) (bif G.nests.contains d then nestRow d e r l.toNat else putRow d e r (List.replicate l.toNat r.zero))
  | some _, _ => .fail
  | none, _ => opV G o
 | .buildSlice t len parts => match isRowDst G o.dst with
  | some d => (match look t G.ty with
   | some (.sl e r) => if len * r.sz ≤ 65536 then
     buildRow r len parts.toList (List.replicate len r.zero) fun xs => putRow d e r xs
    else .fail
   | _ => .fail)
  | none => opV G o
 | .slice t x lo hi none => getV x fun v => match v with
  | .hdr j hv => match isRowDst G o.dst with
   | some d => seeRow j hv fun e r xs ver => .chk (match look t G.ty with | some T => eqTy T (.sl e r) | none => false) <| getOptInt lo 0 fun l => getOptInt hi xs.length fun h =>
    .chk (decide (0 ≤ l) && decide (l ≤ h) && decide (h ≤ xs.length) && G.bxs.contains j) <| .set (.box j) (.gone hv (ver + 1)) (putRow d e r ((xs.take h.toNat).drop l.toNat))
   | none => .fail
  | .nil => match isRowDst G o.dst, look t G.ty with
   | some _, some (.sl _ _) => getOptInt lo 0 fun l => getOptInt hi 0 fun h => .chk (decide (l = 0) && decide (h = 0)) (put o.dst .nil .done)
   | _, _ => opV G o
  | _ => opV G o
 | .slice t x none (some hi) (some mx) => getV x fun v => match v with
  | .hdr j hv => match isRowDst G o.dst with
   | some d => seeRow j hv fun e r xs ver => .chk (match look t G.ty with | some T => eqTy T (.sl e r) | none => false) <| getInt hi fun h => getInt mx fun m =>
    .chk (decide (h = xs.length) && decide (m = xs.length) && G.bxs.contains j) <| .set (.box j) (.gone hv (ver + 1)) (putRow d e r xs)
   | none => .fail
  | _ => opV G o
 | .convert s t x => getV x fun v => match v with
  | .hdr j hv => match isRowDst G o.dst with
   | some d => seeRow j hv fun e r xs ver => .chk (Nat.beq s t && (match look t G.ty with | some T => eqTy T (.sl e r) && eqTy r (.int .u8) | none => false)) <|
    .chk (decide (0 < xs.length) && G.bxs.contains j) <| .set (.box j) (.gone hv (ver + 1)) (putRow d e r xs)
   | none => .fail
  | _ => opV G o
 | .extract x i => getV x fun v => match v with
  | .tupr vs k j hv => bif Nat.beq i k then put o.dst (.hdr j hv) .done else (match vs.drop i with
   | (true, cs) :: _ => put o.dst (.agg (cs.map DV.clear)) .done
   | (false, [d]) :: _ => put o.dst (.val d.clear) .done
   | _ => .fail)
  | _ => opV G o
 | .indexAddr t x i => getV x fun v => match v with
  | .hdr j hv => .get (.box j) fun b => match b with
   | .hole e r xs hv' _ _ _ _ _ _ => .chk (Nat.beq hv hv' && (match look t G.ty with | some T => eqTy T (.sl e r) | none => false)) <| getInt i fun n =>
    .chk (decide (0 ≤ n) && decide (n < xs.length)) (put o.dst (.rptr j hv n.toNat 0 r.sz) .done)
   | _ => getInt i fun n => seeRow j hv fun e r xs _ => .chk (match look t G.ty with | some T => eqTy T (.sl e r.unest) | none => false) <|
    .chk (decide (0 ≤ n) && decide (n < xs.length)) (put o.dst (.rptr j hv n.toNat 0 r.sz) .done)
  | .shdr j hv ver ii off => .get (.box j) fun b => match b with
   | .hole _ _ _ hv' ver' i' o' e2 r2 y => .chk (Nat.beq hv hv' && (Nat.beq ver ver' && (Nat.beq ii i' && (Nat.beq off o' && (match look t G.ty with | some T => eqTy T (.sl e2 r2) | none => false))))) <| getInt i fun n =>
    .chk (decide (0 ≤ n) && decide (n < y.length)) (put o.dst (.sptr j hv ver ii off n.toNat 0 r2.sz) .done)
   | _ => getInt i fun n => seeSub j hv ver ii off fun _ _ _ e2 r2 y => .chk (match look t G.ty with | some T => eqTy T (.sl e2 r2) | none => false) <|
    .chk (decide (0 ≤ n) && decide (n < y.length)) (put o.dst (.sptr j hv ver ii off n.toNat 0 r2.sz) .done)
  | _ => opV G o
 | .fieldAddr t x f => getV x fun v => match v with
  | .rptr j hv i off sz => match look t G.ty with
   | some T => match T.fld f with
    | some (fo, ft) => .get (.box j) fun b => match b with
     | .hole _ _ _ hv' _ _ _ _ _ _ => .chk (Nat.beq hv hv') (put o.dst (.rptr j hv i (off + fo) sz) .done)
     | _ => .chk (Nat.ble (off + fo + ft.sz) sz) <| seeRow j hv fun _ _ _ _ => put o.dst (.rptr j hv i (off + fo) sz) .done
    | none => .fail
   | none => .fail
  | _ => opV G o
 | .nilCheck x => getV x fun v => match v with
  | .rptr j hv i off sz => seeRow j hv fun _ _ _ _ => put o.dst (.rptr j hv i off sz) .done
  | _ => opV G o
 | .load t x => getV x fun v => match v with
  | .rptr j hv i off _ => match look t G.ty with
   | some T => .chk (Nat.ble 1 T.sz) <| .get (.box j) fun b => match b with
    | .hole _ _ _ hv' ver ii oo e2 r2 _ => .chk (Nat.beq hv hv' && (Nat.beq i ii && (Nat.beq off oo && eqTy T (.sl e2 r2)))) (put o.dst (.shdr j hv ver ii oo) .done)
    | _ => seeRow j hv fun _ r xs ver => match subAt r (xs.getD i r.zero) off with
    | some ⟨e2, r2, _⟩ => .chk (eqTy T (.sl e2 r2)) (put o.dst (.shdr j hv ver i off) .done)
    | none => .chk (Nat.ble (off + T.sz) r.sz) (put o.dst (loadAs T (r.split (xs.getD i r.zero)) off) .done)
   | none => .fail
  | .bptr i lo => .get (.box i) fun b => match b with
   | .box B cs ver => match look t G.ty with
    | some (.sl e r) => bif cellLnk cs lo then .chk (Nat.blt lo 1000) <| .getH (lk i lo) fun q => match q with
      | .row e' r' _ hv _ => .chk (eqTy (.sl e r) (.sl e' r')) (put o.dst (.hdr (lk i lo) hv) .done)
      | _ => .get (.box (lk i lo)) fun q => match q with
       | .hole e' r' _ hv _ _ _ _ _ _ => .chk (eqTy (.sl e r) (.sl e' r')) (put o.dst (.hdr (lk i lo) hv) .done)
       | _ => .fail
     else opV G o
    | some (.pair p q) => match look t G.lnks, isThaw G o.dst with
     | some ks, false => bif isLend G o.dst then loadH o.dst (.pair p q) i lo ks cs else opV G o
     | some ks, true => .chk (G.bxs.contains i) <| thawK G i lo ks cs fun cs' => .set (.box i) (.box B cs' (ver + 1)) (opV G o)
     | _, _ => opV G o
    | _ => opV G o
   | _ => opV G o
  | .sptr j hv ver i off i2 off2 sz2 => match look t G.ty with
   | some T => .get (.box j) fun b => match b with
    | .hole _ _ _ hv' ver' i' o' _ r2 y => .chk (Nat.beq hv hv' && (Nat.beq ver ver' && (Nat.beq i i' && (Nat.beq off o' && (Nat.ble 1 T.sz && (Nat.ble (off2 + T.sz) r2.sz && Nat.beq sz2 r2.sz)))))) (put o.dst (loadAs T (r2.split (y.getD i2 r2.zero)) off2) .done)
    | _ => .chk (Nat.ble 1 T.sz) <| seeSub j hv ver i off fun _ _ _ _ r2 y => .chk (Nat.ble (off2 + T.sz) r2.sz && Nat.beq sz2 r2.sz) (put o.dst (loadAs T (r2.split (y.getD i2 r2.zero)) off2) .done)
   | none => .fail
  | _ => opV G o
 | .store t a x => getV a fun v => match v with
  | .rptr j hv i off _ => match look t G.ty with
   | some T => .chk (!o.dst.isSome && Nat.ble 1 T.sz) <| getV x fun w => match w with
    | .hdr s hs => .get (.box j) fun b => match b with
     | .row _ r xs _ _ => match subAt r (xs.getD i r.zero) off with
      | some _ => moveIn G T j hv i off s hs
      | none => holeIn G T j hv i off s hs
     | _ => .fail
    | _ => getD T x fun y => seeRow j hv fun e r xs ver => .chk (Nat.ble (off + T.sz) r.sz && G.bxs.contains j && r.plain) <|
     match r.build (putCells (r.split (xs.getD i r.zero)) off (T.split y)) with
     | some (z, []) => .set (.box j) (.row e r (xs.set i z) hv (ver + 1)) .done
     | _ => .fail
   | none => .fail
  | .bptr i lo => .get (.box i) fun b => match b with
   | .box B cs ver => getV x fun w => match w with
    | .hdr s hs => bif cellLnk cs lo then (match look t G.ty with
      | some T => .chk (!o.dst.isSome) <| storeK G T i lo s hs
      | none => .fail) else (match look t G.ty with
      | some (.sl e r) => .chk (!o.dst.isSome) <| storeF G (.sl e r) i lo 0 s hs [lnkDV] B cs ver
      | _ => opV G o)
    | .aggh ds [(k, (j, hv))] => match look t G.ty with
     | some T => .chk (!o.dst.isSome && Nat.ble 1 T.sz) <| storeF G T i lo k j hv ds B cs ver
     | none => .fail
    | .aggh ds [] => match look t G.ty, look t G.lnks with
     | some T, some [k] => .chk (!o.dst.isSome && Nat.ble 1 T.sz) <| storeN G T i lo k ds B cs ver
     | _, _ => .fail
    | _ => opV G o
   | _ => opV G o
  | .sptr j hv ver i off i2 off2 sz2 => match look t G.ty with
   | some T => .chk (!o.dst.isSome && Nat.ble 1 T.sz) <| .get (.box j) fun b => match b with
    | .hole e r xs hv' ver' i' o' e2 r2 y => getD T x fun v => .chk (Nat.beq hv hv' && (Nat.beq ver ver' && (Nat.beq i i' && (Nat.beq off o' && (Nat.ble (off2 + T.sz) r2.sz && (Nat.beq sz2 r2.sz && (r2.plain && G.bxs.contains j))))))) <|
     match r2.build (putCells (r2.split (y.getD i2 r2.zero)) off2 (T.split v)) with
     | some (z, []) => .set (.box j) (.hole e r xs hv (ver + 1) i off e2 r2 (y.set i2 z)) .done
     | _ => .fail
    | _ => getD T x fun v => seeSub j hv ver i off fun e r xs e2 r2 y => .chk (Nat.ble (off2 + T.sz) r2.sz && Nat.beq sz2 r2.sz && r2.plain && G.bxs.contains j) <|
     match r2.build (putCells (r2.split (y.getD i2 r2.zero)) off2 (T.split v)) with
     | some (z, []) => match r.build (putCells (r.split (xs.getD i r.zero)) off [⟨.osl e2 r2, y.set i2 z, false⟩]) with
      | some (w, []) => .set (.box j) (.row e r (xs.set i w) hv (ver + 1)) .done
      | _ => .fail
     | _ => .fail
   | none => .fail
  | _ => opV G o
 | .call c => match c.callee with
  | .builtin .len => match c.args.toList, c.argTypes.toList with
   | [x], [t] => getV x fun v => match v with
    | .hdr j hv => seeRow j hv fun e r xs _ => .chk (match look t G.ty with | some T => eqTy T (.sl e r) | none => false) (put o.dst (.val ⟨.int .i64, (xs.length : Int), false⟩) .done)
    | _ => opV G o
   | _, _ => .fail
  | .builtin .append => match c.args.toList, c.argTypes.toList with
   | [x, y], [t, t'] => getV x fun v => match v with
    | .hdr j hv => match isRowDst G o.dst with
     | some d => .chk (Nat.beq t t') <| seeRow j hv fun e r xs ver => .chk (match look t G.ty with | some T => eqTy T (.sl e r) | none => false) <| getD (.sl e r) y fun ys =>
      .chk (decide (xs.length + ys.length < rowMax) && G.bxs.contains j) <| .set (.box j) (.gone hv (ver + 1)) (putRow d e r (xs ++ ys))
     | none => .fail
    | .nil => match isRowDst G o.dst, look t G.ty, look t' G.ty with
     | some d, some (.sl e r), some (.int _) => getInt y fun m => .chk (decide (0 < m) && decide (m < rowMax)) (putRow d e r (List.replicate m.toNat r.zero))
     | _, _, _ => opV G o
    | _ => opV G o
   | _, _ => .fail
  | .value (.func f) => match c.args.toList with
   | x :: xs => getV x fun v => match v with
    | .aggh cs [(k, (j, hv))] => lendP G o.dst f xs cs k j hv
    | _ => opV G o
   | [] => opV G o
  | .builtin .cap => match c.args.toList, c.argTypes.toList with
   | [x], [t] => match look t G.ty with
    | some (.sl _ _) => getV x fun v => match v with
     | .nil => put o.dst (.val ⟨.int .i64, (0 : Int), false⟩) .done
     | _ => .fail
    | _ => .fail
   | _, _ => .fail
  | _ => opV G o
 | .makeMap _ _ => mapP G o
 | .mapUpdate _ _ _ _ => mapP G o
 | .insert _ _ _ _ => mapP G o
 | .lookup _ _ _ _ => mapP G o
 | .range _ _ => mapP G o
 | .entry _ => mapP G o
 | _ => opV G o
def thawP (G : Ctx) (k : Prog) : List Nat → Prog
 | [] => k
 | s :: l => .get (.slot s) fun v => match v with
  | .hdr j hv => .get (.box j) fun b => match b with
   | .row e r xs hv' ver => bif Nat.beq hv hv' && G.bxs.contains j && r.plain then .set (.slot s) (.val ⟨.sl e r, xs, false⟩) (.set (.box j) (.gone hv (ver + 1)) (thawP G k l)) else thawP G k l
   | _ => thawP G k l
  | _ => thawP G k l
def opTmps : List Operand → List Nat
 | [] => []
 | .tmp t :: l => t :: opTmps l
 | _ :: l => opTmps l
def thawMove (G : Ctx) (o : Oper) : Bool := match o.op, o.dst with
 | .move _, some d => G.thaws.contains (d + 1000000)
 | _, _ => false
def thawL (G : Ctx) (o : Oper) : List Nat :=
 match G.thaws with
 | [] => []
 | ts => (opTmps o.op.operands.toList).filter fun t => ts.contains t || thawMove G o
def opP (G : Ctx) (o : Oper) : Prog := thawP G (rowP G o) (thawL G o)
def isPeek (G : Ctx) : Option Nat → Bool
 | some d => G.thaws.contains (d + 4000000)
 | none => false
def peekP (G : Ctx) (o o2 : Oper) : Prog :=
 match o.op, o2.op, o.dst with
 | .call c, .call c2, some d => match c.callee, c2.callee, c.args.toList, c.argTypes.toList, c2.args.toList with
  | .builtin .append, .value (.func f), [x, y], [t, t'], [.tmp s] => .chk (Nat.beq s d && (Nat.beq t t' && (Nat.blt f 1000000 && (!o.guard.isSome && !o2.guard.isSome)))) <| getV x fun v => match v with
   | .hdr j hv => seeRow j hv fun e r xs ver => .chk (match look t G.ty with | some T => eqTy T (.sl e r) | none => false) <| getD (.sl e r) y fun ys =>
    .chk (decide (xs.length + ys.length < rowMax) && (G.bxs.contains j && r.plain)) <| match look (f + 2000000000000) G.fns with
     | some ⟨[.val t2], [.val t3], run⟩ => .chk t3.here <| match (DV.mk (.sl e r) (xs ++ ys) false).as t2 with
      | some z => .bind (run (z, ())) fun w => .set (.box j) (.row e r xs hv (ver + 1)) <| .set (.slot d) .unk <| put o2.dst (PV.of t3 w.1) .done
      | none => .fail
     | _ => .fail
   | _ => .fail
  | _, _, _, _, _ => .fail
 | _, _, _ => .fail
def dstOk (n : Nat) : Option Nat → Bool
 | some d => Nat.ble (d + 1) n
 | none => true
def nextIt : Op → Option Operand
 | .next it false => some it
 | _ => none
noncomputable def nextP {R : Type} (G : Ctx) (dst : Option Nat) (it : Operand) (e : Env) (c : Env → Option R) : Option R :=
 match it, dst with
 | .tmp t, some s => match e (.slot t) with
  | .itr d => match e (.box d) with
   | .iter left _ ver => bif G.bxs.contains d then
     nextOf left (c ((e.set (.box d) (.iter [] none (ver + 1))).set (.slot s) (.tup [(false, [⟨.bool, false, false⟩])])))
      (fun x => c ((e.set (.box d) (.iter (left.erase x) (some x) (ver + 1))).set (.slot s) (.tup [(false, [⟨.bool, true, false⟩]), (false, [⟨.int .i64, x, false⟩]), (true, [])])))
    else none
   | _ => none
  | _ => none
 | _, _ => none
noncomputable def stepOp {R : Type} (G : Ctx) (ops : Array Oper) (o : Oper) (e : Env) (c : Env → Option R) : Option R :=
 bif !dstOk G.n o.dst then none else
 match o.guard with
 | none => match nextIt o.op with
  | some it => nextP G o.dst it e c
  | none => (opP G o).run e c
 | some (j, want) => match (ops[j]?).bind (·.dst) with
  | none => none
  | some d => match e (.slot d) with
   | .undef => (put o.dst .undef .done).run e c
   | .val ⟨.bool, b, _⟩ =>
    bif b then (bif want then (opP G o).run (e.set (.slot d) (.val ⟨.bool, true, false⟩)) c else (put o.dst .undef .done).run (e.set (.slot d) (.val ⟨.bool, true, false⟩)) c)
    else (bif want then (put o.dst .undef .done).run (e.set (.slot d) (.val ⟨.bool, false, false⟩)) c else (opP G o).run (e.set (.slot d) (.val ⟨.bool, false, false⟩)) c)
   | _ => none
noncomputable def runOps {R : Type} (G : Ctx) (ops : Array Oper) : List Oper → Env → (Env → Option R) → Option R
 | [], e, c => c e
 | o :: l, e, c => bif isPeek G o.dst then (match l with
   | o2 :: l2 => bif dstOk G.n o.dst && dstOk G.n o2.dst then (peekP G o o2).run e fun e' => runOps G ops l2 e' c else none
   | [] => none)
  else stepOp G ops o e fun e' => runOps G ops l e' c
inductive LP where
 | p (q : Place)
 | h (i : Nat)
def sameHead (a b : PV) : Bool := match a, b with
 | .row e r _ hv _, .row e' r' _ hv' _ => Nat.beq e e' && (eqTy r r' && Nat.beq hv hv')
 | _, _ => false
def setLog (e : Env) (p : Place) (v : PV) : List LP × List LP := match p with
 | .slot t => ([], [.p (.slot t)])
 | .box i => ([.h i], bif sameHead (e (.box i)) v then [.p (.box i)] else [.h i, .p (.box i)])
def Prog.runG {R : Type} : Prog → Env → List LP → List LP → (List LP → List LP → Env → Option R) → Option R
 | .done, e, rs, ws, c => c rs ws e
 | .fail, _, _, _, _ => none
 | .get p k, e, rs, ws, c => (k (e p)).runG e (.p p :: rs) ws c
 | .getH i k, e, rs, ws, c => (k (rowHead (e (.box i)))).runG e (.h i :: rs) ws c
 | .set p v k, e, rs, ws, c => k.runG (e.set p v) ((setLog e p v).1 ++ rs) ((setLog e p v).2 ++ ws) c
 | .chk b k, e, rs, ws, c => bif b then k.runG e rs ws c else none
 | .bind m k, e, rs, ws, c => m.bind fun x => (k x).runG e rs ws c
def opQ (G : Ctx) (o : Oper) : Prog :=
 match nextIt o.op with
 | some _ => .fail
 | none => opP G o
def stepOpG {R : Type} (G : Ctx) (ops : Array Oper) (o : Oper) (e : Env) (c : List LP → List LP → Env → Option R) : Option R :=
 bif !dstOk G.n o.dst then none else
 match o.guard with
 | none => (opQ G o).runG e [] [] c
 | some (j, want) => match (ops[j]?).bind (·.dst) with
  | none => none
  | some d => match e (.slot d) with
   | .undef => (put o.dst .undef .done).runG e [.p (.slot d)] [] c
   | .val ⟨.bool, b, tip⟩ => bif tip then none else
    bif b then (bif want then (opP G o).runG (e.set (.slot d) (.val ⟨.bool, true, false⟩)) [.p (.slot d)] [] c else (put o.dst .undef .done).runG (e.set (.slot d) (.val ⟨.bool, true, false⟩)) [.p (.slot d)] [] c)
    else (bif want then (put o.dst .undef .done).runG (e.set (.slot d) (.val ⟨.bool, false, false⟩)) [.p (.slot d)] [] c else (opP G o).runG (e.set (.slot d) (.val ⟨.bool, false, false⟩)) [.p (.slot d)] [] c)
   | _ => none
def Place.eqB : Place → Place → Bool
 | .slot a, .slot b => Nat.beq a b
 | .box a, .box b => Nat.beq a b
 | _, _ => false
def LP.eqB : LP → LP → Bool
 | .p a, .p b => a.eqB b
 | .h a, .h b => Nat.beq a b
 | _, _ => false
def apartB (l m : List LP) : Bool := l.all fun p => m.all fun q => !p.eqB q
def logApart (x y : List LP × List LP) : Bool := apartB x.1 y.2 && (apartB x.2 y.1 && apartB x.2 y.2)
def freeOk (logs : List (List LP × List LP)) (x : List LP × List LP) : List Nat → Bool
 | [] => true
 | a :: l => (match nth logs a with
  | some y => logApart y x
  | none => false) && freeOk logs x l
def runDraw {R : Type} (G : Ctx) (ops : Array Oper) : List (List Nat) → List Oper → List (List LP × List LP) → Env → (Env → Option R) → Option R
 | _, [], _, e, c => c e
 | [], _ :: _, _, _, _ => none
 | fr :: F, o :: l, logs, e, c => stepOpG G ops o e fun rs ws e' => bif freeOk logs (rs, ws) fr then runDraw G ops F l (logs ++ [(rs, ws)]) e' c else none
def edgeOk (F : List (List Nat)) (a : Nat) (d : Edge) : Bool :=
 Region.binds .any d && (Nat.beq d.on a || (Nat.blt a d.on && match nth F d.on with
  | some l => !memB a l
  | none => false))
def rowOk (F : List (List Nat)) (o : Oper) (fr : List Nat) : Nat → Bool
 | 0 => true
 | a + 1 => (memB a fr || o.after.toList.any (edgeOk F a)) && rowOk F o fr a
def rkOf (rk : List Nat) (n : Nat) : Nat := match nth rk n with
 | some r => r
 | none => n
def edgeLt (rk : List Nat) (n i : Nat) (d : Edge) : Bool := match d.ground with
 | .gcOnly _ => Nat.blt (rkOf rk d.on) (rkOf rk i) && Nat.blt d.on n
 | .textOnly _ => Nat.blt d.on i
 | _ => Nat.blt d.on i && Nat.blt (rkOf rk d.on) (rkOf rk i)
def drawOk (rk : List Nat) (F : List (List Nat)) : Nat → List (List Nat) → List Oper → Bool
 | _, [], [] => true
 | i, fr :: F', o :: l => o.after.toList.all (edgeLt rk F.length i) && (rowOk F o fr i && drawOk rk F (i + 1) F' l)
 | _, _, _ => false
inductive Ex where
 | normal | exit (id : Nat) | ret
 deriving DecidableEq
inductive LD where
 | val (s : Nat) (t : Ty) (tip : Bool)
 | agg (s : Nat) (t : Ty)
 | box (i : Nat) (T : TypeId) (ts : List (Ty × Bool))
 /-- a row that stays at its place -/
 | row (i : Nat) (e : TypeId) (r : Ty)
 /-- a slot with a row of its own -/
 | own (s : Nat) (e : TypeId) (r : Ty)
 /-- a map; one that is ranged over -/
 | set (i : Nat)
 | iter (i : Nat)
 /-- the row that a box's cell leads to -/
 | lnk (i : Nat) (e : TypeId) (r : Ty)
 /-- a pointer into a row of its own that is carried: which element -/
 | ptr (s j o sz : Nat)
@[reducible] def cellsTy : List (Ty × Bool) → Ty
 | [] => .unit
 | (t, _) :: l => .pair t (cellsTy l)
@[reducible] def LD.ty : LD → Ty
 | .val _ t _ => t
 | .agg _ t => t
 | .box _ _ ts => cellsTy ts
 | .row _ e r => .sl e r
 | .own _ e r => .sl e r
 | .set _ => .sl 0 (.int .i64)
 | .iter _ => .sl 0 (.int .i64)
 | .lnk _ e r => .sl e r
 | .ptr _ _ _ _ => .int .i64
@[reducible] def liveTy : List LD → Ty
 | [] => .unit
 | d :: l => .pair d.ty (liveTy l)
def takeCells : (ts : List (Ty × Bool)) → List DV → Option (cellsTy ts).D
 | [], [] => some ()
 | (t, tip) :: ts, d :: ds => match d.as t with
  | some x => if tip = true ∧ d.tip = false then none else match takeCells ts ds with
   | some y => some (x, y)
   | none => none
  | none => none
 | _, _ => none
def giveCells : (ts : List (Ty × Bool)) → (cellsTy ts).D → List DV
 | [], _ => []
 | (t, tip) :: ts, x => ⟨t, x.1, tip⟩ :: giveCells ts x.2
def LD.take (d : LD) (e : Env) : Option d.ty.D :=
 match d with
 | .val s t tip => match e (.slot s) with
  | .val v => if tip = true ∧ v.tip = false then none else v.as t
  | .exact v => v.as t
  | _ => none
 | .agg s t => match e (.slot s) with
  | .agg cs => match t.build cs with
   | some (x, []) => some x
   | _ => none
  | _ => none
 | .box i T ts => match e (.box i) with
  | .box T' cs _ => if T = T' then takeCells ts cs else none
  | _ => none
 | .row i e' r => match e (.box i) with
  | .row e1 r1 xs _ _ => (DV.mk (.sl e1 r1) xs false).as (.sl e' r)
  | _ => none
 | .own s e' r => match e (.slot s) with
  | .hdr j hv => bif Nat.beq j s then (match e (.box s) with
   | .row e1 r1 xs hv' _ => bif Nat.beq hv hv' then (DV.mk (.sl e1 r1) xs false).as (.sl e' r) else none
   | _ => none) else none
  | _ => none
 | .set i => match e (.box i) with
  | .set ks true _ => some ks
  | _ => none
 | .iter i => match e (.box i) with
  | .iter ks _ _ => some ks
  | _ => none
 | .lnk i e' r => match e (.box i) with
  | .row e1 r1 xs _ _ => (DV.mk (.sl e1 r1) xs false).as (.sl e' r)
  | _ => none
 | .ptr s j o sz => match e (.slot s) with
  | .rptr j' hv i o' sz' => match e (.box j) with
   | .row _ _ _ hv' _ => bif Nat.beq j j' && (Nat.beq o o' && (Nat.beq sz sz' && Nat.beq hv hv')) then some (i : Int) else none
   | _ => none
  | _ => none
def takeLive : (l : List LD) → Env → Option (liveTy l).D
 | [], _ => some ()
 | d :: l, e => match d.take e with
  | some x => match takeLive l e with
   | some y => some (x, y)
   | none => none
  | none => none
def LD.give (d : LD) (x : d.ty.D) (e : Env) : Env :=
 match d with
 | .val s t tip => e.set (.slot s) (.val ⟨t, x, tip⟩)
 | .agg s t => e.set (.slot s) (.agg (t.split x))
 | .box i T ts => match e (.box i) with
  | .box _ _ ver => e.set (.box i) (.box T (giveCells ts x) (ver + 1))
  | _ => e
 | .row i e' r => match e (.box i) with
  | .row _ _ _ hv ver => e.set (.box i) (.row e' r x hv (ver + 1))
  | _ => e
 | .own s e' r => (e.set (.box s) (.row e' r x 0 0)).set (.slot s) (.hdr s 0)
 | .set i => match e (.box i) with
  | .set _ _ ver => e.set (.box i) (.set x true (ver + 1))
  | _ => e
 | .iter i => match e (.box i) with
  | .iter _ _ ver => e.set (.box i) (.iter x none (ver + 1))
  | _ => e
 | .lnk i e' r => match e (.box i) with
  | .gone hv ver => e.set (.box i) (.row e' r x (hv + 1) (ver + 1))
  | _ => e
 | .ptr s j o sz => e.set (.slot s) (.rptr j 0 x.toNat o sz)
def giveLive : (l : List LD) → (liveTy l).D → Env → Env
 | [], _, e => e
 | d :: l, x, e => giveLive l x.2 (d.give x.1 e)
def tmpsOf : List Operand → List Nat
 | [] => []
 | .tmp t :: l => t :: tmpsOf l
 | _ :: l => tmpsOf l
def opWrites (G : Ctx) (o : Oper) : List Nat :=
 thawL G o ++ (o.dst.toList ++ match o.op with
  | .move x => bif isTip G o.dst then tmpsOf [x] else []
  | .assign x => tmpsOf [x]
  | .store _ _ x => tmpsOf [x]
  | .convert s d x => bif Nat.beq s d then tmpsOf [x] else []
  | .call c => tmpsOf c.args.toList
  | _ => [])
def writes (G : Ctx) : Code → List Nat
 | .region _ ops _ => ops.toList.flatMap (opWrites G)
 | .seq a b => writes G a ++ writes G b
 | .cond c a b => tmpsOf [c] ++ (writes G a ++ writes G b)
 | .block _ b => writes G b
 | .loop b => writes G b
 | .scope b => writes G b
 | _ => []
def verOf : PV → Nat
 | .box _ _ v => 2 * v + 1
 | .lent _ v => 2 * v + 2
 | .frz _ _ v => 2 * v + 2
 | .row _ _ _ _ v => 2 * v + 1
 | .gone _ v => 2 * v + 1
 | .lrow _ _ _ v => 2 * v + 2
 | .set _ _ v => 2 * v + 1
 | .iter _ _ v => 2 * v + 1
 | .hole _ _ _ _ v _ _ _ _ _ => 2 * v + 1
 | _ => 0
def hvOf : PV → Nat
 | .row _ _ _ hv _ => hv + 1
 | .gone hv _ => hv + 1
 | .lrow _ _ hv _ => hv + 1
 | .hole _ _ _ hv _ _ _ _ _ _ => hv + 1
 | _ => 0
def PV.lose (v : PV) : PV := .gone (hvOf v) (verOf v)
def drop (W K : List Nat) (e : Env) : Env
 | .slot t => if W.contains t then .unk else match (e (.slot t)).at? with
  | some i => if (W.contains i || K.contains i || (e (.slot t)).isSub) = true then .unk else e (.slot t)
  | none => (e (.slot t)).clear
 | .box i => if W.contains i then .unk else if K.contains i then (e (.box i)).lose else e (.box i)
def lnksOf : List LD → List Nat
 | [] => []
 | .lnk i _ _ :: l => i :: lnksOf l
 | _ :: l => lnksOf l
def lost (bxs W : List Nat) (L : List LD) : List Nat := lnksOf L ++ bxs.filter fun j => Nat.ble 2000000 j && W.contains ((j - 2000000) / 1000)
def headOf : Code → Nat
 | .region id _ _ => id
 | .seq a _ => headOf a
 | .cond _ a _ => headOf a
 | .block _ b => headOf b
 | .loop b => headOf b
 | .scope b => headOf b
 | _ => 1000000
def countOf : Code → Nat
 | .region _ _ _ => 1
 | .seq a b => countOf a + countOf b
 | .cond _ a b => countOf a + countOf b
 | .block _ b => countOf b
 | .loop b => countOf b
 | .scope b => countOf b
 | _ => 0
def LD.isOwn (i : Nat) : LD → Bool
 | .own j _ _ => i == j
 | _ => false
def LD.isBox (i : Nat) : LD → Bool
 | .box j _ _ => i == j
 | .row j _ _ => i == j
 | .set j => i == j
 | .iter j => i == j
 | _ => false
def sameBoxes (bxs W : List Nat) (L : List LD) (e e' : Env) : Bool :=
 bxs.all fun i => W.contains i || (lost bxs W L).contains i || L.any (LD.isBox i) || verOf (e (.box i)) == verOf (e' (.box i))
def LD.ok (bxs W : List Nat) (L : List LD) : LD → Bool
  | .val s _ _ => W.contains s
  | .agg s _ => W.contains s
  | .box i _ _ => bxs.contains i && (!W.contains i && Nat.blt i 2000000)
  | .row i _ _ => bxs.contains i && (!W.contains i && Nat.blt i 2000000)
  | .own s _ _ => W.contains s && Nat.ble s 1000000
  | .set i => bxs.contains i && (!W.contains i && Nat.blt i 2000000)
  | .iter i => bxs.contains i && (!W.contains i && Nat.blt i 2000000)
  | .lnk i _ _ => bxs.contains i && (!W.contains i && Nat.ble 2000000 i)
  | .ptr _ j _ _ => L.any (LD.isOwn j)
def liveOk (bxs W : List Nat) (L : List LD) : Bool := L.all (LD.ok bxs W L)
def rowsAt (L : List LD) (e : Env) : Bool :=
 L.all fun d => match d with
  | .row i _ _ => (match e (.box i) with
   | .row _ _ _ _ _ => true
   | _ => false)
  | .box i _ _ => (match e (.box i) with
   | .set _ _ _ => false
   | .iter _ _ _ => false
   | _ => true)
  | .set i => (match e (.box i) with
   | .set _ _ _ => true
   | _ => false)
  | .iter i => (match e (.box i) with
   | .iter _ _ _ => true
   | _ => false)
  | .ptr s j _ _ => (match e (.slot s) with
   | .rptr j' _ _ _ _ => Nat.beq j j'
   | _ => false)
  | _ => true
structure Ann where
 loops : List (Nat × (Nat × List LD))
 joins : List (Nat × (Nat × List LD))
 draws : List (Nat × List (List Nat)) := []
 ranks : List (Nat × List Nat) := []
def ranksOf (A : Ann) (id : Nat) : List Nat := match look id A.ranks with
 | some rk => rk
 | none => []
def find (l : List (Nat × (Nat × List LD))) (c : Code) : Option (List LD) :=
 match l with
 | [] => none
 | (h, (n, d)) :: l => if h = headOf c ∧ n = countOf c then some d else find l c
def loopF {S R : Type} (step : S → (S → Option R) → Option R) : Nat → S → Option R
 | 0, _ => none
 | n + 1, s => step s (loopF step n)
noncomputable def exec {R : Type} (G : Ctx) (A : Ann) (fuel : Nat) : Code → Env → (Ex → Env → Option R) → Option R
 | .skip, e, k => k .normal e
 | .region id ops draw, e, k => bif draw then (match look id A.draws with
   | some F => bif drawOk (ranksOf A id) F 0 F ops.toList then runDraw G ops F ops.toList [] e (k .normal) else none
   | none => none)
  else runOps G ops ops.toList e (k .normal)
 | .seq a b, e, k => match find A.joins a with
  | none => exec G A fuel a e fun x e' => match x with
   | .normal => exec G A fuel b e' k
   | x => k x e'
  | some L => bif !(liveOk G.bxs (writes G a) L && rowsAt L e) then none else (exec (R := (liveTy L).D ⊕ R) G A fuel a e fun x e' => match x with
    | .normal => bif sameBoxes G.bxs (writes G a) L e e' then (takeLive L e').map .inl else none
    | x => (k x e').map .inr).bind fun
   | .inl s => exec G A fuel b (giveLive L s (drop (writes G a) (lost G.bxs (writes G a) L) e)) k
   | .inr r => some r
 | .cond c a b, e, k => match c with
  | .tmp t => match e (.slot t) with
   | .val ⟨.bool, v, _⟩ => bif v then exec G A fuel a (e.set (.slot t) (.val ⟨.bool, true, false⟩)) k else exec G A fuel b (e.set (.slot t) (.val ⟨.bool, false, false⟩)) k
   | _ => none
  | _ => none
 | .block id b, e, k => exec G A fuel b e fun x e' => match x with
  | .exit j => if j = id then k .normal e' else k (.exit j) e'
  | x => k x e'
 | .loop b, e, k => match find A.loops b with
  | none => none
  | some L => bif !(liveOk G.bxs (writes G b) L && rowsAt L e) then none else match takeLive L e with
   | none => none
   | some s => loopF (fun s rec => exec G A fuel b (giveLive L s (drop (writes G b) (lost G.bxs (writes G b) L) e)) fun x e' => match x with
     | .normal => bif sameBoxes G.bxs (writes G b) L e e' then (match takeLive L e' with
      | some s' => rec s'
      | none => none) else none
     | x => k x e') fuel s
 | .exit id, e, k => k (.exit id) e
 | .ret, e, k => k .ret e
 | .label _, e, k => k .normal e
 | .scope b, e, k => exec G A fuel b e k
 | _, _, _ => none
def setRows (i : Nat) : List DV → Nat → Env → Env
 | [], _, e => e
 | ⟨.osl e' r, y, _⟩ :: l, k, e => setRows i l (k + 1) (e.set (.box (lk i k)) (.row e' r y 0 0))
 | _ :: l, k, e => setRows i l (k + 1) e
def gather (e : Env) (i : Nat) : (t : Ty) → Nat → List DV → Option (t.D × List DV)
 | .pair a b, k, cs => match gather e i a k cs with
  | some (x, l) => match gather e i b (k + a.sz) l with
   | some (y, l) => some ((x, y), l)
   | none => none
  | none => none
 | .osl e' r, k, cs => match cs with
  | [] => none
  | d :: l => bif d.isLnk && Nat.blt k 1000 then (match e (.box (lk i k)) with
   | .row e1 r1 xs _ _ => match (DV.mk (.sl e1 r1) xs false).as (.sl e' r) with
    | some y => some (y, l)
    | none => none
   | _ => none) else none
 | t, _, cs => t.build cs
def initEnv : (ps : List Md) → Nat → (tupTy ps).D → Env
 | [], _, _ => fun _ => .unk
 | .val t :: ps, n, z => (initEnv ps (n + 1) z.2).set (.slot n) (PV.of t z.1)
 | .tip t :: ps, n, z => match t, z with
  | .sl e r, z => (initEnv ps (n + 1) z.2).set (.slot n) (.val ⟨.sl e r, z.1, true⟩)
  | _, z => initEnv ps (n + 1) z.2
 | .nilp s :: ps, n, z => (initEnv ps (n + 1) z.2).set (.slot n) (bif s then .nil else .nilp)
 | .cap t :: ps, n, z => (initEnv ps (n + 1) z.2).set (.slot n) (.eptr (t.split z.1))
 | .full t b :: ps, n, z => (initEnv ps (n + 1) z.2).set (.slot n) (.full ⟨t, z.1, false⟩ b)
 | .str _ :: ps, n, z => initEnv ps (n + 1) z.2
 | .take e r :: ps, n, z => ((initEnv ps (n + 1) z.2).set (.slot n) (.hdr n 0)).set (.box n) (.row e r z.1 0 0)
 | .own e r :: ps, n, z => ((initEnv ps (n + 1) z.2).set (.slot n) (.hdr (1000000 + n) 0)).set (.box (1000000 + n)) (.row e r z.1 0 0)
 | .box T t :: ps, n, z => ((setRows (1000000 + n) (t.split z.1) 0 (initEnv ps (n + 1) z.2)).set (.slot n) (.bptr (1000000 + n) 0)).set (.box (1000000 + n)) (.box T (lnkCells (t.split z.1)) 0)
def endVal (m : Md) (e : Env) (t : Nat) : Option m.ty.D :=
 match m with
 | .val t' => (e (.slot t)).as t'
 | .tip t' => match typed (some t') (e (.slot t)) with
  | .val ⟨t'', x, true⟩ => (DV.mk t'' x true).as t'
  | .exact d => d.as t'
  | _ => none
 | .box T t' => match e (.slot t) with
  | .bptr i 0 => if Nat.ble 1000000 i = true then none else match e (.box i) with
   | .box T' cs _ => if T = T' then (match t'.build cs with
    | some (x, []) => some x
    | _ => none) else none
   | _ => none
  | _ => none
 | .own e' r => match e (.slot t) with
  | .hdr j hv => if Nat.ble 1000000 j = true then none else match e (.box j) with
   | .row e1 r1 xs hv' _ => bif Nat.beq hv hv' then (DV.mk (.sl e1 r1) xs false).as (.sl e' r) else none
   | _ => none
  | _ => none
 | _ => none
def endThaw : List ResultVar → Env → Env
 | [], e => e
 | .tmp t :: l, e => match e (.slot t) with
  | .hdr j hv => match e (.box j) with
   | .row e' r xs hv' ver => bif Nat.beq hv hv' then (bif r.plain then endThaw l ((e.set (.slot t) (.val ⟨.sl e' r, xs, false⟩)).set (.box j) (.gone hv (ver + 1)))
     else endThaw l ((e.set (.slot t) (.val ⟨.sl e' r.unest, unestL r xs, false⟩)).set (.box j) (.gone hv (ver + 1)))) else endThaw l e
   | _ => endThaw l e
  | _ => endThaw l e
 | _ :: l, e => endThaw l e
def endBoxes : (ps : List Md) → Nat → Env → Option (tupTy (ps.filter Md.isBox)).D
 | [], _, _ => some ()
 | .val _ :: ps, n, e => endBoxes ps (n + 1) e
 | .tip _ :: ps, n, e => endBoxes ps (n + 1) e
 | .nilp _ :: ps, n, e => endBoxes ps (n + 1) e
 | .cap _ :: ps, n, e => endBoxes ps (n + 1) e
 | .full _ _ :: ps, n, e => endBoxes ps (n + 1) e
 | .take _ _ :: ps, n, e => endBoxes ps (n + 1) e
 | .str _ :: ps, n, e => endBoxes ps (n + 1) e
 | .own e' r :: ps, n, e => match e (.box (1000000 + n)) with
  | .row e1 r1 xs hv _ => match (if Nat.beq hv 0 = true then (DV.mk (.sl e1 r1) xs false).as (.sl e' r) else none) with
   | some x => match endBoxes ps (n + 1) e with
    | some y => some (x, y)
    | none => none
   | none => none
  | _ => none
 | .box T t :: ps, n, e => match e (.box (1000000 + n)) with
  | .box T' cs _ => match (if T = T' then gather e (1000000 + n) t 0 cs else none) with
   | some (x, []) => match endBoxes ps (n + 1) e with
    | some y => some (x, y)
    | none => none
   | _ => none
  | _ => none
def endCell (G : Ctx) (m : Md) (e : Env) (a : Nat) (T : TypeId) : Option m.ty.D :=
 match m with
 | .val t' => match look T G.ty with
  | some T' => if T' = t' ∧ 0 < t'.sz then (match e (.slot a) with
   | .bptr i lo => match e (.box i) with
    | .box _ cs _ => if lo + t'.sz ≤ cs.length then (loadAs t' cs lo).as t' else none
    | _ => none
   | _ => none) else none
  | none => none
 | .str t' => match look T G.ty with
  | some T' => if T' = t'.unest ∧ (T'.isAgg = true ∧ t'.linkOk = true) then (match e (.slot a) with
   | .bptr i 0 => match e (.box i) with
    | .box _ cs _ => bif Nat.blt i 1000000 && Nat.beq cs.length T'.sz then (match gather e i t' 0 cs with
     | some (x, []) => some x
     | _ => none) else none
    | _ => none
   | _ => none) else none
  | none => none
 | _ => none
def endOne (G : Ctx) (m : Md) (e : Env) : ResultVar → Option m.ty.D
 | .tmp t => endVal m e t
 | .cell a T => endCell G m e a T
def endAll (G : Ctx) : (rs ps : List Md) → List ResultVar → Env → Option (tupTy (rs ++ ps.filter Md.isBox)).D
 | [], ps, [], e => endBoxes ps 0 e
 | m :: rs, ps, v :: l, e => match endOne G m e v with
  | some x => match endAll G rs ps l e with
   | some y => some (x, y)
   | none => none
  | none => none
 | _, _, _, _ => none
def Md.flat : Md → Bool
 | .own _ r => r.plain
 | .take _ r => r.plain
 | .box _ t => t.linkOk && Nat.ble t.sz 1000
 | _ => true
def oneOnly : List Md → Bool
 | [_] => true
 | rs => rs.all isVal || (rs.all (fun m => isVal m || isOwn m) && Nat.beq (rs.countP isOwn) 1)
noncomputable def fnRun (G : Ctx) (A : Ann) (fuel : Nat) (fn : Func) (ps rs : List Md) (z : (tupTy ps).D) : Option (tupTy (rs ++ ps.filter Md.isBox)).D :=
 bif !(Nat.ble ps.length fn.ntmps && Nat.ble fn.ntmps 1000000 && Nat.beq fn.ntmps G.n && oneOnly rs && ps.all Md.flat) then none else match fn.body with
 | some c => exec G A fuel c (initEnv ps 0 z) fun x e => match x with
  | .normal | .ret => bif rs.all isVal then endAll G rs ps fn.results.toList (endThaw fn.results.toList e) else endAll G rs ps fn.results.toList e
  | _ => none
 | none => none
end Go.PM
