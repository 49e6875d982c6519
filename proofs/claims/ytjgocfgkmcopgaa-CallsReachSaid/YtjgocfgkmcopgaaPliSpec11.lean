/- Who calls whom: what the functions come to, in plain Lean. -/
import Derived.Test.YtjgocfgkmcopgaaPliSpec5
namespace Go.Pli
open Go Go.PM

/-- Numbers, rising. -/
def ints (n : Nat) : List Int := (List.range n).map fun k : Nat => (k : Int)
def leI (x y : Int) : Bool := decide (x ≤ y)
def insI (x : Int) : List Int → List Int
  | [] => [x]
  | y :: l => bif leI x y then x :: y :: l else y :: insI x l
def sortL : List Int → List Int
  | [] => []
  | x :: l => insI x (sortL l)
def sortI (l : List Int) : List Int × Unit := (sortL l, ())
/-- Runs of the same become one. -/
def compactI : List Int → List Int
  | [] => []
  | a :: l => match compactI l with
    | [] => [a]
    | b :: r => bif a == b then b :: r else a :: b :: r

def nM (m : Im) : Int := (m.2.2.2.1.length : Int)
/-- The classes that are it, or below it. -/
def belowB (m : Im) (c : Int) : List Int := (ints m.1.length).filter fun n => kbelow m.1 n c
def cbelow (m : Im) (c : Int) : Option (List Int × Unit) := bif ifits m then some (belowB m c, ()) else none
def r5below (m : Im) (c : Int) : Option (List Int × Unit) := bif ifits m then some (belowB m c, ()) else none
def hasSlot (m : Im) (c n : Int) : Bool := (decide (0 ≤ c) && decide (c < (m.1.length : Int))) && (decide (0 ≤ n) && decide (n < ((clOf m c).2.2.1.length : Int)))
def cslot (m : Im) (c n : Int) : Int × Bool × Unit := bif hasSlot m c n then ((clOf m c).2.2.1.getD n.toNat 0, true, ()) else (0, false, ())
def r5slot (m : Im) (c n : Int) : Int × Bool × Unit := cslot m c n
def slotsOf (m : Im) (l : List Int) (n : Int) : List Int := (l.filter fun c => (cslot m c n).2.1).map fun c => (cslot m c n).1
/-- The methods that an instruction may call. -/
def targetsB (m : Im) (i : Ins) : List Int := bif i.1 == 31 then [i.2.1] else bif i.1 == 32 then slotsOf m (belowB m i.2.1) i.2.2.1 else []
def ctargets (m : Im) (i : Ins) : Option (List Int × Unit) := bif ifits m then some (targetsB m i, ()) else none
def r8targets (m : Im) (i : Ins) : Option (List Int × Unit) := bif ifits m then some (targetsB m i, ()) else none
def inM (m : Im) (f : Int) : Bool := sin f (nM m)
def allT (m : Im) (f : Int) : List Int := ((mtOf m f).2.2.2.1.map (targetsB m)).flatten
def ofB (m : Im) (f : Int) : List Int := bif inM m f then compactI (sortL (allT m f)) else []
def cof (m : Im) (f : Int) : Option (List Int × Unit) := bif ifits m then some (ofB m f, ()) else none
def callsB (m : Im) (f g : Int) : Bool := (mtOf m f).2.2.2.1.any fun i => (targetsB m i).contains g
def r8calls (m : Im) (f g : Int) : Option (Bool × Unit) := bif ifits m && inM m f then some (callsB m f g, ()) else none
def edgesB (m : Im) : List (List Int) := (ints m.2.2.2.1.length).map fun f => (ints m.2.2.2.1.length).filter fun g => callsB m f g
def r8edges (m : Im) : Option (List (List Int) × Unit) := bif ifits m then some (edgesB m, ()) else none
/-- All that is called is there. -/
def tgtOk (m : Im) : Bool := (ints m.2.2.2.1.length).all fun f => (allT m f).all (inM m)
/-- One step on. -/
def growS (m : Im) (S : List Int) : List Int := (ints m.2.2.2.1.length).filter fun g => memI g S || S.any fun x => callsB m x g
def closN (m : Im) : Nat → List Int → List Int
  | 0, S => S
  | n + 1, S => closN m n (growS m S)
def reachB (m : Im) (f : Int) : List Int := bif inM m f then closN m m.2.2.2.1.length [f] else []
def creach (m : Im) (f : Int) : Option (List Int × Unit) := bif ifits m && tgtOk m then some (reachB m f, ()) else none
def sane11 (m : Im) : Bool := decide ((m.2.2.2.1.length : Int) ≤ 12) && (decide ((m.1.length : Int) ≤ 8) && (decide ((m.2.2.1.length : Int) ≤ 16) && r5sane m == 0))
/-! ### from which one comes to which -/
def edgeL (l : List (List Int)) (i j : Nat) : Bool := (l.getD i []).contains (j : Int)
def wayF (l : List (List Int)) : Nat → Nat → Nat → Bool
  | 0, i, j => edgeL l i j
  | k + 1, i, j => wayF l k i j || (wayF l k i k && wayF l k k j)
def matF (n : Nat) (f : Nat → Nat → Bool) : List (List Bool) := (List.range n).map fun i => (List.range n).map fun j => f i j
def smallL (l : List (List Int)) : Bool := Nat.ble l.length 1000 && l.all fun r => Nat.ble r.length 1000
def r8ways (l : List (List Int)) : Option (List (List Bool) × Unit) := bif smallL l then some (matF l.length (wayF l l.length), ()) else none
end Go.Pli
