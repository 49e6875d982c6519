/- Images, and whether all is there that they name: what the functions come to, in plain Lean. -/
import Derived.Test.YtjgocfgkmcopgaaPliSpec
import Derived.Test.YtjgocfgkmcopgaaPliLoop
import Derived.Test.YtjgocfgkmcopgaaPliNatBits
namespace Go.Pli
open Go Go.PM

abbrev Tp := Int × Int × Unit
abbrev Cl := Int × List Tp × List Int × Unit
abbrev Mt := List Tp × List Tp × Tp × List Ins × Int × Int × List Int × Unit
abbrev Im := List Cl × List Tp × List Int × List Mt × List Int × Int × Int × Unit
abbrev zTp : Tp := (0, 0, ())
abbrev zIns : Ins := (0, 0, 0, ())
abbrev zCl : Cl := (0, [], [], ())
abbrev zMt : Mt := ([], [], zTp, [], 0, 0, [], ())
abbrev zIm : Im := ([], [], [], [], [], 0, 0, ())

def idL {α : Type} (s : List α) : List α := s
def eqL {α : Type} [BEq α] (a b : List α) : Bool := a == b

/-! ### what fits -/
def iwithin (n m : Int) : Bool := decide (0 ≤ n) && decide (n ≤ m)
def ityp (t : Tp) : Bool := iwithin t.1 5 && (t.2.1 == 0 || (t.1 == 3 && iwithin t.2.1 7))
def ityp1 (t : Tp) : Bool := !ityp t
def itypes (l : List Tp) (m : Int) : Bool := decide ((l.length : Int) ≤ m) && l.all ityp
def inum1 (n m : Int) : Bool := !iwithin n m
def inums (l : List Int) (c m : Int) : Bool := decide ((l.length : Int) ≤ c) && l.all fun n => iwithin n m
def imethod (x : Mt) : Bool :=
  itypes x.1 4 && (itypes x.2.1 8 && (ityp x.2.2.1 && (decide ((x.2.2.2.1.length : Int) ≤ 64) && (x.2.2.2.1.all igood && (iwithin x.2.2.2.2.1 8 && (iwithin x.2.2.2.2.2.1 4096 && inums x.2.2.2.2.2.2.1 64 4096))))))
def iclass (x : Cl) : Bool := decide (-1 ≤ x.1) && (decide (x.1 < 8) && (itypes x.2.1 8 && inums x.2.2.1 4 11))
def ifits1 (x : Cl) : Bool := !iclass x
def ifits2 (x : Mt) : Bool := !imethod x
def ifits (m : Im) : Bool :=
  decide ((m.1.length : Int) ≤ 8) && (itypes m.2.1 8 && (decide ((m.2.2.1.length : Int) ≤ 16) && (decide ((m.2.2.2.1.length : Int) ≤ 12) && (m.1.all iclass && (m.2.2.2.1.all imethod &&
    (inums m.2.2.2.2.1 12 11 && (iwithin m.2.2.2.2.2.1 4096 && iwithin m.2.2.2.2.2.2.1 4096)))))))
def indexClass (l : List Cl) (_ : Unit) : Int := indexF ifits1 0 l
def indexMethod (l : List Mt) (_ : Unit) : Int := indexF ifits2 0 l
def indexTypes (l : List Tp) (_ : Unit) : Int := indexF ityp1 0 l
def indexNums (l : List Int) (c : Int × Unit) : Int := indexF (fun n => inum1 n c.1) 0 l
def containsClass (l : List Cl) (_ : Unit) : Bool := l.any ifits1
def containsMethod (l : List Mt) (_ : Unit) : Bool := l.any ifits2
def containsTypes (l : List Tp) (_ : Unit) : Bool := l.any ityp1
def containsNums (l : List Int) (c : Int × Unit) : Bool := l.any fun n => inum1 n c.1
def r5in (n a b : Int) : Bool := decide (a ≤ n) && decide (n ≤ b)
def r5list (l : List Int) (c m : Int) : Bool := inums l c m
def r5typ (t : Tp) : Bool := ityp t
def r5types (l : List Tp) (c : Int) : Bool := itypes l c
def r5fits (m : Im) : Bool := ifits m

/-! ### types, by the classes that there are -/
def kgood (t : Tp) (n : Int) : Bool := bif t.1 == 1 || t.1 == 2 then t.2.1 == 0 else t.1 == 3 && (decide (0 ≤ t.2.1) && decide (t.2.1 < n))
def rgood (t : Tp) (n : Int) : Bool := kgood t n
def kisref (t : Tp) : Bool := t.1 == 2 || (t.1 == 3 || t.1 == 4)
def risref (t : Tp) : Bool := kisref t
def supC (l : List Cl) (c : Int) : Int := (l.getD c.toNat zCl).1
def kup (l : List Cl) (c : Int) : Int := bif decide (c < 0) || (decide (c ≥ (l.length : Int)) || decide (supC l c ≥ c)) then -1 else supC l c
def chainF (l : List Cl) : Nat → Int → List Int
  | 0, _ => []
  | n + 1, c => bif decide (c < 0) then [] else c :: chainF l n (kup l c)
/-- A class and all above it. -/
def chain (l : List Cl) (c : Int) : List Int := chainF l (c.toNat + 1) c
def kbelow (l : List Cl) (a b : Int) : Bool := decide (0 ≤ b) && (decide (b < (l.length : Int)) && (decide (a < (l.length : Int)) && (chain l a).contains b))
def ksub (l : List Cl) (a b : Tp) : Bool := bif a.1 == 4 then kisref b else bif a.1 == 3 && b.1 == 3 then kbelow l a.2.1 b.2.1 else a == b && (a.1 == 1 || a.1 == 2)
def okL {α : Type} (l : List α) : Bool := Nat.blt l.length 1000000
def raboveB (l : List Cl) (c : Int) : List Int := bif decide (c < (l.length : Int)) then chain l c else []
def rabove (l : List Cl) (c : Int) : Option (List Int × Unit) := bif okL l then some (raboveB l c, ()) else none
def rsubB (l : List Cl) (a b : Tp) : Bool := bif a.1 == 4 then kisref b else bif a.1 == 3 then b.1 == 3 && (raboveB l a.2.1).contains b.2.1 else a == b && (a.1 == 1 || a.1 == 2)
def rsub (l : List Cl) (a b : Tp) : Option (Bool × Unit) := bif okL l then some (rsubB l a b, ()) else none
def rtypes (a b : List Tp) : Bool := a == b
def rints (a b : List Int) : Bool := a == b

/-! ### whether two are one -/
def sameClass (a b : Cl) : Bool := a == b
def sameMethod (a b : Mt) : Bool := a == b
def eqfC (a b : List Cl) (_ : Unit) : Bool := a == b
def eqfM (a b : List Mt) (_ : Unit) : Bool := a == b
def isame (a b : Im) : Bool := a == b
def r5same (a b : Im) : Bool := a == b
def icopy (m : Im) : Option (Im × Unit) := bif ifits m then some (m, ()) else none

/-! ### whether all is there -/
def sin (n c : Int) : Bool := decide (0 ≤ n) && decide (n < c)
def goods (m : Im) (l : List Tp) : Bool := l.all fun t => kgood t (m.1.length : Int)
def r5good (m : Im) (l : List Tp) : Bool := goods m l
def sall (m : Im) (l : List (List Tp)) : Bool := l.all (goods m)
def clOf (m : Im) (c : Int) : Cl := m.1.getD c.toNat zCl
def mtOf (m : Im) (f : Int) : Mt := m.2.2.2.1.getD f.toNat zMt
def sumL : List Nat → Nat
  | [] => 0
  | n :: l => n + sumL l
/-- How many fields a class has, with those of all above it. -/
def fieldsC (m : Im) (c : Int) : Nat := sumL ((chain m.1 c).map fun s => (clOf m s).2.1.length)
def upSlots (m : Im) (c : Int) : List Int := bif decide (0 ≤ supC m.1 c) then (clOf m (supC m.1 c)).2.2.1 else []
def alike (a b : Mt) : Bool := decide (0 < a.1.length) && (decide (0 < b.1.length) && (a.1.drop 1 == b.1.drop 1 && a.2.2.1 == b.2.2.1))
def salike (a b : Mt) : Bool := alike a b
def fitsB (m : Im) (c f : Int) : Bool := decide (0 < (mtOf m f).1.length) && ksub m.1 (3, c, ()) ((mtOf m f).1.getD 0 zTp)
def slotB (m : Im) (c : Int) (n : Nat) (f : Int) : Bool :=
  sin f (m.2.2.2.1.length : Int) && (fitsB m c f && (!decide (n < (upSlots m c).length) || alike (mtOf m f) (mtOf m ((upSlots m c).getD n 0))))
def allN {α : Type} (p : Nat → α → Bool) : Nat → List α → Bool
  | _, [] => true
  | k, x :: l => p k x && allN p (k + 1) l
def classB (m : Im) (c : Int) : Bool :=
  decide (supC m.1 c < c) && (goods m (clOf m c).2.1 && (decide (fieldsC m c ≤ 8) && (decide ((upSlots m c).length ≤ (clOf m c).2.2.1.length) && allN (slotB m c) 0 (clOf m c).2.2.1)))
/-- All classes ahead of one are right. -/
def ahead (m : Im) (c : Int) : Bool := (List.range c.toNat).all fun k => classB m (k : Int)
def preC (m : Im) (c : Int) : Bool := ifits m && (decide (0 ≤ c) && (decide (c < (m.1.length : Int)) && ahead m c))
def allC (m : Im) : Bool := (List.range m.1.length).all fun k => classB m (k : Int)
def upFields (m : Im) (c : Int) : Nat := sumL ((chain m.1 (supC m.1 c)).map fun s => (clOf m s).2.1.length)
def sabove (m : Im) (c : Int) : Option (Int × List Int × Unit) := bif preC m c && decide (supC m.1 c < c) then some ((upFields m c : Int), upSlots m c, ()) else none
def sfits (m : Im) (c f : Int) : Option (Bool × Unit) := bif sin f (m.2.2.2.1.length : Int) then some (fitsB m c f, ()) else none
def sclass (m : Im) (c : Int) : Option (Bool × Unit) := bif preC m c then some (classB m c, ()) else none
def r5fields (m : Im) (c : Int) : Option (List Tp × Unit) := bif ifits m then some ((((raboveB m.1 c).reverse).map fun s => (clOf m s).2.1).flatten, ()) else none
def r5class (m : Im) (c : Int) : Option (Bool × Unit) := bif preC m c then some (classB m c, ()) else none
def sfields (c : Int) (m : Im) : Option (Int × Unit) := bif ifits m && (allC m && sin c (m.1.length : Int)) then some ((fieldsC m c : Int), ()) else none
def instrB (m : Im) (x : Mt) (i : Ins) : Bool :=
  bif i.1 == 1 then sin i.2.1 (m.2.2.1.length : Int)
  else bif i.1 == 3 || i.1 == 4 then sin i.2.1 ((x.1.length + x.2.1.length : Nat) : Int)
  else bif i.1 == 18 || i.1 == 19 then sin i.2.1 (x.2.2.2.1.length : Int)
  else bif i.1 == 22 || i.1 == 34 then sin i.2.1 (m.1.length : Int)
  else bif i.1 == 27 || i.1 == 28 then sin i.2.1 (m.1.length : Int) && sin i.2.2.1 (fieldsC m i.2.1 : Int)
  else bif i.1 == 29 || i.1 == 30 then sin i.2.1 (m.2.1.length : Int)
  else bif i.1 == 31 then sin i.2.1 (m.2.2.2.1.length : Int)
  else bif i.1 == 32 then sin i.2.1 (m.1.length : Int) && sin i.2.2.1 ((clOf m i.2.1).2.2.1.length : Int)
  else true
def preM (m : Im) (x : Mt) : Bool := ifits m && (allC m && imethod x)
def sinstr (m : Im) (x : Mt) (i : Ins) (f : Im × Unit) : Option (Bool × Unit) := bif preM m x && f.1 == m then some (instrB m x i, ()) else none
def r5named (m : Im) (x : Mt) (i : Ins) : Option (Bool × Unit) := bif preM m x && igood i then some (instrB m x i, ()) else none
def methodB (m : Im) (x : Mt) : Bool :=
  goods m x.1 && (goods m x.2.1 && ((x.2.2.1 == (5, 0, ()) || kgood x.2.2.1 (m.1.length : Int)) && (decide (x.2.2.2.1.length ≠ 0) && (decide (x.2.2.2.2.2.2.1.length = x.2.2.2.1.length) &&
    (decide (x.1.length + x.2.1.length ≤ 8) && x.2.2.2.1.all (instrB m x))))))
def smethod (m : Im) (x : Mt) : Option (Bool × Unit) := bif preM m x then some (methodB m x, ()) else none
def r5method (m : Im) (x : Mt) : Option (Bool × Unit) := bif preM m x then some (methodB m x, ()) else none
def sentry1 (t : Tp) : Bool := t.1 == 1 && t.2.1 == 0
def sentry2 (t : Tp) (_ : Unit) : Bool := !sentry1 t
def indexEntry (l : List Tp) (_ : Unit × Unit) : Int := indexF (fun t => sentry2 t ()) 0 l
def containsEntry (l : List Tp) (_ : Unit × Unit) : Bool := l.any fun t => sentry2 t ()
def entryB (m : Im) (f : Int) : Bool := sin f (m.2.2.2.1.length : Int) && ((sentry1 (mtOf m f).2.2.1 || (mtOf m f).2.2.1.1 == 5) && (mtOf m f).1.all sentry1)
def sentry (m : Im) (f : Int) : Option (Bool × Unit) := some (entryB m f, ())
def saneB (m : Im) : Bool := goods m m.2.1 && (allC m && (m.2.2.2.1.all (methodB m) && m.2.2.2.2.1.all (entryB m)))
def scheck (m : Im) : Int := bif ifits m then (bif saneB m then 0 else 3) else 2
def r5sane (m : Im) : Int := scheck m

/-! ### bytes -/
def zgl (n : Int) : Nat := (if n < 0 then -2 * n - 1 else 2 * n).toNat
def encI (i : Ins) : List Int := enc i.1.toNat ++ ((bif decide (iargs i.1 < 1) then [] else enc i.2.1.toNat) ++ (bif decide (iargs i.1 < 2) then [] else enc i.2.2.1.toNat))
def encT (t : Tp) : List Int := enc t.1.toNat ++ (bif t.1 == 3 then enc t.2.1.toNat else [])
def encR {α : Type} (f : α → List Int) : List α → List Int
  | [] => []
  | x :: l => f x ++ encR f l
def encTs (l : List Tp) : List Int := enc l.length ++ encR encT l
def encN (n : Int) : List Int := enc n.toNat
def encNs (l : List Int) : List Int := enc l.length ++ encR encN l
def encM (x : Mt) : List Int := encTs x.1 ++ (encTs x.2.1 ++ (encT x.2.2.1 ++ (enc x.2.2.2.1.length ++ (encR encI x.2.2.2.1 ++ (encN x.2.2.2.2.1 ++ (encN x.2.2.2.2.2.1 ++ encNs x.2.2.2.2.2.2.1))))))
def encC (c : Cl) : List Int := encN (c.1 + 1) ++ (encTs c.2.1 ++ encNs c.2.2.1)
def encZ (n : Int) : List Int := enc (zgl n)
def encB (m : Im) : List Int :=
  enc m.1.length ++ (encR encC m.1 ++ (encTs m.2.1 ++ (enc m.2.2.1.length ++ (encR encZ m.2.2.1 ++ (enc m.2.2.2.1.length ++ (encR encM m.2.2.2.1 ++ (encNs m.2.2.2.2.1 ++ (encN m.2.2.2.2.2.1 ++ encN m.2.2.2.2.2.2.1))))))))
def mark : List Int := [112, 108, 105, 109]
def encIm (m : Im) : List Int := mark ++ encB m

def putType (b : List Int) (t : Tp) : Option (List Int × Unit) := bif okL b && ityp t then some (b ++ encT t, ()) else none
def putTypes (b : List Int) (l : List Tp) : Option (List Int × Unit) := bif Nat.blt b.length 900000 && itypes l 8 then some (b ++ encTs l, ()) else none
def putNums (b : List Int) (l : List Int) : Option (List Int × Unit) := bif okL b && inums l 64 4096 then some (b ++ encNs l, ()) else none
def putMethod (b : List Int) (x : Mt) : Option (List Int × Unit) := bif Nat.blt b.length 800000 && imethod x then some (b ++ encM x, ()) else none
def ints32 (l : List Int) : Bool := l.all fun n => decide (-2147483648 ≤ n) && decide (n ≤ 2147483647)
def iencode (m : Im) : Option (List Int × Int × Unit) :=
  bif ifits m then (bif ints32 m.2.2.1 then (bif decide ((encIm m).length > 8192) then some ([], 12, ()) else some (encIm m, 0, ())) else none) else some ([], 1, ())
def r5one (t : Tp) : Option (List Int × Unit) := bif ityp t then some (encT t, ()) else none
def r5several (l : List Tp) : Option (List Int × Unit) := bif itypes l 8 then some (encTs l, ()) else none
def r5nums (l : List Int) : Option (List Int × Unit) := bif inums l 64 4096 then some (encNs l, ()) else none
def r5encode (m : Im) : Option (List Int × Unit) := bif ifits m && ints32 m.2.2.1 then some (encIm m, ()) else none

def repO {α : Type} (f : Rd → Option (α × Rd × Unit)) : Nat → Rd → Option (List α × Rd × Unit)
  | 0, r => some ([], r, ())
  | n + 1, r => (f r).bind fun q => (repO f n q.2.1).bind fun p => some (q.1 :: p.1, p.2.1, ())
def getType (r : Rd) : Option (Tp × Rd × Unit) :=
  (getN r 5).bind fun a => bif a.1 == 3 then (getN a.2.1 7).bind fun b => some ((a.1, b.1, ()), b.2.1, ()) else some ((a.1, 0, ()), a.2.1, ())
def getRow {α : Type} (f : Rd → Option (α × Rd × Unit)) (r : Rd) (m : Int) : Option (List α × Rd × Unit) := (getN r m).bind fun a => repO f a.1.toNat a.2.1
def getTypes (r : Rd) (m : Int) : Option (List Tp × Rd × Unit) := bif decide (m ≤ 1000) then getRow getType r m else none
def getNums (r : Rd) (c m : Int) : Option (List Int × Rd × Unit) := bif decide (c ≤ 1000) then getRow (fun r => getN r m) r c else none
def getMethod (r : Rd) : Option (Mt × Rd × Unit) :=
  (getTypes r 4).bind fun a => (getTypes a.2.1 8).bind fun b => (getType b.2.1).bind fun c => (getRow igetN c.2.1 64).bind fun d => (getN d.2.1 8).bind fun e => (getN e.2.1 4096).bind fun f =>
  (getNums f.2.1 64 4096).bind fun g => some ((a.1, b.1, c.1, d.1, e.1, f.1, g.1, ()), g.2.1, ())
def getClass (r : Rd) : Option (Cl × Rd × Unit) :=
  (getN r 8).bind fun a => (getTypes a.2.1 8).bind fun b => (getNums b.2.1 4 11).bind fun c => some ((IntKind.i64.wrap (a.1 - 1), b.1, c.1, ()), c.2.1, ())
def getImg (r : Rd) : Option (Im × Rd × Unit) :=
  (getRow getClass r 8).bind fun a => (getTypes a.2.1 8).bind fun b => (getRow glongN b.2.1 16).bind fun c => (getRow getMethod c.2.1 12).bind fun d => (getNums d.2.1 12 11).bind fun e =>
  (getN e.2.1 4096).bind fun f => (getN f.2.1 4096).bind fun g => some ((a.1, b.1, c.1, d.1, e.1, f.1, g.1, ()), g.2.1, ())
def idecode (b : List Int) : Option (Im × Int × Unit) :=
  bif decide ((b.length : Int) > 8192) || (decide ((b.length : Int) < 4) || !((strOfNums (b.take 4)).toList == (⟨#[112, 108, 105, 109]⟩ : ByteArray).toList)) then some (zIm, 2, ())
  else (getImg (newN (b.drop 4))).bind fun q => (finN q.2.1).bind fun f => bif !f.1 || !ifits q.1 then some (zIm, 2, ()) else some (q.1, 0, ())

def total5 (m : Im) : Nat := m.1.length + m.2.1.length + m.2.2.1.length + m.2.2.2.1.length + m.2.2.2.2.1.length
def small6 (m : Im) : Bool := decide (total5 m ≤ 300) && m.2.2.2.1.all fun x => decide (x.1.length + x.2.1.length + x.2.2.2.1.length + x.2.2.2.2.2.2.1.length ≤ 1000)
def small5 (m : Im) : Bool := small6 m && m.1.all fun c => decide (c.2.1.length + c.2.2.1.length ≤ 300)

end Go.Pli
