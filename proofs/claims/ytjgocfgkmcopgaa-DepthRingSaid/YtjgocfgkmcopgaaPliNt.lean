/- Who calls whom: what the functions come to, in plain Lean. -/
import Derived.Test.YtjgocfgkmcopgaaPliSp
namespace Go.Pli
open Go Go.PM
def ints (n : Nat) : List Int := (List.range n).map fun k : Nat => (k : Int)
def leI (x y : Int) : Bool := decide (x ≤ y)
def insI (x : Int) : List Int → List Int
 | [] => [x]
 | y :: l => bif leI x y then x :: y :: l else y :: insI x l
def sortL : List Int → List Int
 | [] => []
 | x :: l => insI x (sortL l)
def sortI (l : List Int) : List Int × Unit := (sortL l, ())
def compactI : List Int → List Int
 | [] => []
 | a :: l => match compactI l with
  | [] => [a]
  | b :: r => bif a == b then b :: r else a :: b :: r
def nM (m : Im) : Int := (m.2.2.2.1.length : Int)
def belowB (m : Im) (c : Int) : List Int := (ints m.1.length).filter fun n => kbelow m.1 n c
def cbelow (m : Im) (c : Int) : Option (List Int × Unit) := bif ifits m then some (belowB m c, ()) else none
def r5below (m : Im) (c : Int) : Option (List Int × Unit) := bif ifits m then some (belowB m c, ()) else none
def hasSlot (m : Im) (c n : Int) : Bool := (decide (0 ≤ c) && decide (c < (m.1.length : Int))) && (decide (0 ≤ n) && decide (n < ((clOf m c).2.2.1.length : Int)))
def cslot (m : Im) (c n : Int) : Int × Bool × Unit := bif hasSlot m c n then ((clOf m c).2.2.1.getD n.toNat 0, true, ()) else (0, false, ())
def r5slot (m : Im) (c n : Int) : Int × Bool × Unit := cslot m c n
def slotsOf (m : Im) (l : List Int) (n : Int) : List Int := (l.filter fun c => (cslot m c n).2.1).map fun c => (cslot m c n).1
def targetsB (m : Im) (i : Ins) : List Int := bif i.1 == 31 then [i.2.1] else bif i.1 == 32 then slotsOf m (belowB m i.2.1) i.2.2.1 else []
def ctargets (m : Im) (i : Ins) : Option (List Int × Unit) := bif ifits m then some (targetsB m i, ()) else none
def r8targets (m : Im) (i : Ins) : Option (List Int × Unit) := bif ifits m then some (targetsB m i, ()) else none
def inM (m : Im) (f : Int) : Bool := sin f (nM m)
def allT (m : Im) (f : Int) : List Int := ((mtOf m f).2.2.2.1.map (targetsB m)).flatten
def ofB (m : Im) (f : Int) : List Int := bif inM m f then compactI (sortL (allT m f)) else []
def cof (m : Im) (f : Int) : Option (List Int × Unit) := bif ifits m then some (ofB m f, ()) else none
def callsB (m : Im) (f g : Int) : Bool := (mtOf m f).2.2.2.1.any fun i => (targetsB m i).contains g
def r8calls (m : Im) (f g : Int) : Option (Bool × Unit) := bif ifits m && inM m f then some (callsB m f g, ()) else none
def edgesB (m : Im) : List (List Int) := (ints m.2.2.2.1.length).map fun f => (ints m.2.2.2.1.length).filter fun g => callsB m f g
def r8edges (m : Im) : Option (List (List Int) × Unit) := bif ifits m then some (edgesB m, ()) else none
def tgtOk (m : Im) : Bool := (ints m.2.2.2.1.length).all fun f => (allT m f).all (inM m)
def sane11 (m : Im) : Bool := decide ((m.2.2.2.1.length : Int) ≤ 12) && (decide ((m.1.length : Int) ≤ 8) && (decide ((m.2.2.1.length : Int) ≤ 16) && r5sane m == 0))
def edgeL (l : List (List Int)) (i j : Nat) : Bool := (l.getD i []).contains (j : Int)
def wayF (l : List (List Int)) : Nat → Nat → Nat → Bool
 | 0, i, j => edgeL l i j
 | k + 1, i, j => wayF l k i j || (wayF l k i k && wayF l k k j)
def matF (n : Nat) (f : Nat → Nat → Bool) : List (List Bool) := (List.range n).map fun i => (List.range n).map fun j => f i j
def smallL (l : List (List Int)) : Bool := Nat.ble l.length 1000 && l.all fun r => Nat.ble r.length 1000
def r8ways (l : List (List Int)) : Option (List (List Bool) × Unit) := bif smallL l then some (matF l.length (wayF l l.length), ()) else none
end Go.Pli

namespace Go.Pli
open Go Go.PM
def cbelowL1 (m : Im) (c : Int) (s1 : List Int × Int × Unit) (rec2 : (List Int × Int × Unit) → Option (List Int × Unit)) : Option (List Int × Unit) :=
 bif decide (s1.2.1 < (m.1.length : Int)) then
  bif (kbelow m.1 s1.2.1 c) then
   bif decide (s1.1.length + [s1.2.1].length < rowMax) then
    rec2 (s1.1 ++ [s1.2.1], IntKind.i64.wrap (s1.2.1 + 1), ())
   else none
  else rec2 (s1.1, IntKind.i64.wrap (s1.2.1 + 1), ())
 else some ((idL s1.1), ())
def cbelowN (fuel : Nat) (m : Im) (c : Int) : Option (List Int × Unit) :=
 loopF (cbelowL1 m c) fuel (([] : List Int), ((0 : Int), ()))
def cslotN (m : Im) (c : Int) (n : Int) : Option (Int × Bool × Unit) :=
 bif decide (c < 0) then
  some ((0 : Int), false, ())
 else bif decide (c ≥ (m.1.length : Int)) then
  some ((0 : Int), false, ())
 else bif decide (n < 0) then
  some ((0 : Int), false, ())
 else bif decide (0 ≤ c) && decide (c < m.1.length) then
  bif decide (n ≥ ((m.1.getD c.toNat zCl).2.2.1.length : Int)) then
   some ((0 : Int), false, ())
  else bif decide (0 ≤ c) && decide (c < m.1.length) then
   bif decide (0 ≤ n) && decide (n < (m.1.getD c.toNat zCl).2.2.1.length) then
    some ((m.1.getD c.toNat zCl).2.2.1.getD n.toNat 0, true, ())
   else none
  else none
 else none
def ctargetsL1 (m : Im) (i : Ins) (r1 : List Int × Unit) (s2 : List Int × Int × Unit) (rec3 : (List Int × Int × Unit) → Option (List Int × Unit)) : Option (List Int × Unit) :=
 bif decide (s2.2.1 < (r1.1.length : Int)) then
  bif decide (0 ≤ s2.2.1) && decide (s2.2.1 < r1.1.length) then
   let r4 := cslot m (r1.1.getD s2.2.1.toNat 0) i.2.2.1
   bif r4.2.1 then
    bif decide (s2.1.length + [r4.1].length < rowMax) then
     rec3 (s2.1 ++ [r4.1], IntKind.i64.wrap (s2.2.1 + 1), ())
    else none
   else rec3 (s2.1, IntKind.i64.wrap (s2.2.1 + 1), ())
  else none
 else some (s2.1, ())
def ctargetsN (fuel : Nat) (m : Im) (i : Ins) : Option (List Int × Unit) :=
 bif i.1 == 31 then
  bif decide (([] : List Int).length + [i.2.1].length < rowMax) then
   some (([] : List Int) ++ [i.2.1], ())
  else none
 else bif i.1 == 32 then
  (cbelow m i.2.1).bind fun r1 =>
  loopF (ctargetsL1 m i r1) fuel (([] : List Int), ((0 : Int), ()))
 else some (([] : List Int), ())
def cofL1 (m : Im) (f : Int) (s1 : List Int × Int × Unit) (rec2 : (List Int × Int × Unit) → Option (List Int × Unit)) : Option (List Int × Unit) :=
 bif decide (s1.2.1 < ((m.2.2.2.1.getD f.toNat zMt).2.2.2.1.length : Int)) then
  bif decide (0 ≤ s1.2.1) && decide (s1.2.1 < (m.2.2.2.1.getD f.toNat zMt).2.2.2.1.length) then
   (ctargets m ((m.2.2.2.1.getD f.toNat zMt).2.2.2.1.getD s1.2.1.toNat zIns)).bind fun r3 =>
   bif decide (s1.1.length + r3.1.length < rowMax) && true then
    rec2 (s1.1 ++ r3.1, IntKind.i64.wrap (s1.2.1 + 1), ())
   else none
  else none
 else 
  let r4 := sortI s1.1
  some ((idL (compactI r4.1)), ())
def cofN (fuel : Nat) (m : Im) (f : Int) : Option (List Int × Unit) :=
 bif decide (f < 0) then
  some (([] : List Int), ())
 else bif decide (f ≥ (m.2.2.2.1.length : Int)) then
  some (([] : List Int), ())
 else bif decide (0 ≤ f) && decide (f < m.2.2.2.1.length) then
  loopF (cofL1 m f) fuel (([] : List Int), ((0 : Int), ()))
 else none
def r5belowL1 (m : Im) (c : Int) (s1 : List Int × Int × Unit) (rec2 : (List Int × Int × Unit) → Option (List Int × Unit)) : Option (List Int × Unit) :=
 bif decide (s1.2.1 < (m.1.length : Int)) then
  (rabove m.1 s1.2.1).bind fun r3 =>
  (rin r3.1 c).bind fun r4 =>
  bif r4.1 then
   bif decide (s1.1.length + [s1.2.1].length < rowMax) then
    rec2 (s1.1 ++ [s1.2.1], IntKind.i64.wrap (s1.2.1 + 1), ())
   else none
  else rec2 (s1.1, IntKind.i64.wrap (s1.2.1 + 1), ())
 else some (s1.1, ())
def r5belowN (fuel : Nat) (m : Im) (c : Int) : Option (List Int × Unit) :=
 loopF (r5belowL1 m c) fuel (([] : List Int), ((0 : Int), ()))
def r5slotN (m : Im) (c : Int) (n : Int) : Option (Int × Bool × Unit) :=
 bif decide (c < 0) then
  some ((0 : Int), false, ())
 else bif decide (c ≥ (m.1.length : Int)) then
  some ((0 : Int), false, ())
 else bif decide (n < 0) then
  some ((0 : Int), false, ())
 else bif decide (0 ≤ c) && decide (c < m.1.length) then
  bif decide (n ≥ ((m.1.getD c.toNat zCl).2.2.1.length : Int)) then
   some ((0 : Int), false, ())
  else bif decide (0 ≤ c) && decide (c < m.1.length) then
   bif decide (0 ≤ n) && decide (n < (m.1.getD c.toNat zCl).2.2.1.length) then
    some ((m.1.getD c.toNat zCl).2.2.1.getD n.toNat 0, true, ())
   else none
  else none
 else none
def r8targetsL1 (m : Im) (i : Ins) (r3 : List Int × Unit) (s4 : List Int × Int × Unit) (rec5 : (List Int × Int × Unit) → Option (List Int × Unit)) : Option (List Int × Unit) :=
 bif decide (s4.2.1 < (r3.1.length : Int)) then
  bif decide (0 ≤ s4.2.1) && decide (s4.2.1 < r3.1.length) then
   let r6 := r5slot m (r3.1.getD s4.2.1.toNat 0) i.2.2.1
   bif r6.2.1 then
    bif decide (s4.1.length + [r6.1].length < rowMax) then
     rec5 (s4.1 ++ [r6.1], IntKind.i64.wrap (s4.2.1 + 1), ())
    else none
   else rec5 (s4.1, IntKind.i64.wrap (s4.2.1 + 1), ())
  else none
 else some (s4.1, ())
def r8targetsN (fuel : Nat) (m : Im) (i : Ins) : Option (List Int × Unit) :=
 (bif i.1 == 31 then
  bif decide (([] : List Int).length + [i.2.1].length < rowMax) then
   some (.inl (([] : List Int) ++ [i.2.1], ()))
  else none
 else some (.inl (([] : List Int), ())) : Option ((List Int × Unit) ⊕ (List Int × Unit))).bind fun q => match q with
 | .inr r2 => some r2
 | .inl s1 =>
  bif i.1 == 32 then
   (r5below m i.2.1).bind fun r3 =>
   loopF (r8targetsL1 m i r3) fuel (s1.1, ((0 : Int), ()))
  else some (s1.1, ())
def r8callsL1 (m : Im) (f : Int) (g : Int) (s1 : Int × Unit) (rec2 : (Int × Unit) → Option (Bool × Unit)) : Option (Bool × Unit) :=
 bif decide (0 ≤ f) && decide (f < m.2.2.2.1.length) then
  bif decide (s1.1 < ((m.2.2.2.1.getD f.toNat zMt).2.2.2.1.length : Int)) then
   bif decide (0 ≤ f) && decide (f < m.2.2.2.1.length) then
    bif decide (0 ≤ s1.1) && decide (s1.1 < (m.2.2.2.1.getD f.toNat zMt).2.2.2.1.length) then
     (r8targets m ((m.2.2.2.1.getD f.toNat zMt).2.2.2.1.getD s1.1.toNat zIns)).bind fun r3 =>
     (rin r3.1 g).bind fun r4 =>
     bif r4.1 then
      some (true, ())
     else rec2 (IntKind.i64.wrap (s1.1 + 1), ())
    else none
   else none
  else some (false, ())
 else none
def r8callsN (fuel : Nat) (m : Im) (f : Int) (g : Int) : Option (Bool × Unit) :=
 loopF (r8callsL1 m f g) fuel ((0 : Int), ())
def r8edgesL1 (m : Im) (s1 : List (List Int) × Int × Unit) (rec2 : (List (List Int) × Int × Unit) → Option (List (List Int) × Unit)) (s3 : List Int × Int × Unit) (rec4 : (List Int × Int × Unit) → Option (List (List Int) × Unit)) : Option (List (List Int) × Unit) :=
 bif decide (s3.2.1 < (m.2.2.2.1.length : Int)) then
  (r8calls m s1.2.1 s3.2.1).bind fun r5 =>
  bif r5.1 then
   bif decide (s3.1.length + [s3.2.1].length < rowMax) then
    rec4 (s3.1 ++ [s3.2.1], IntKind.i64.wrap (s3.2.1 + 1), ())
   else none
  else rec4 (s3.1, IntKind.i64.wrap (s3.2.1 + 1), ())
 else bif decide (s1.1.length + [s3.1].length < rowMax) && true then
  rec2 (s1.1 ++ [s3.1], IntKind.i64.wrap (s1.2.1 + 1), ())
 else none
def r8edgesL2 (m : Im) (fuel : Nat) (s1 : List (List Int) × Int × Unit) (rec2 : (List (List Int) × Int × Unit) → Option (List (List Int) × Unit)) : Option (List (List Int) × Unit) :=
 bif decide (s1.2.1 < (m.2.2.2.1.length : Int)) then
  loopF (r8edgesL1 m s1 rec2) fuel (([] : List Int), ((0 : Int), ()))
 else some (s1.1, ())
def r8edgesN (fuel : Nat) (m : Im) : Option (List (List Int) × Unit) :=
 loopF (r8edgesL2 m fuel) fuel (([] : List (List Int)), ((0 : Int), ()))
def r8waysL1 (l : List (List Int)) (s1 : Int × List (List Bool) × Unit) (rec2 : (Int × List (List Bool) × Unit) → Option (List (List Bool) × Unit)) (s3 : Int × List (List Bool) × Unit) (rec4 : (Int × List (List Bool) × Unit) → Option (List (List Bool) × Unit)) : Option (List (List Bool) × Unit) :=
 bif decide (0 ≤ s1.1) && decide (s1.1 < l.length) then
  bif decide (s3.1 < ((l.getD s1.1.toNat ([] : List Int)).length : Int)) then
   bif decide (0 ≤ s1.1) && decide (s1.1 < l.length) then
    bif decide (0 ≤ s3.1) && decide (s3.1 < (l.getD s1.1.toNat ([] : List Int)).length) then
     bif decide ((l.getD s1.1.toNat ([] : List Int)).getD s3.1.toNat 0 ≥ 0) then
      bif decide (0 ≤ s1.1) && decide (s1.1 < l.length) then
       bif decide (0 ≤ s3.1) && decide (s3.1 < (l.getD s1.1.toNat ([] : List Int)).length) then
        bif decide ((l.getD s1.1.toNat ([] : List Int)).getD s3.1.toNat 0 < (l.length : Int)) then
         bif decide (0 ≤ s1.1) && decide (s1.1 < s3.2.1.length) then
          bif decide (0 ≤ s1.1) && decide (s1.1 < l.length) then
           bif decide (0 ≤ s3.1) && decide (s3.1 < (l.getD s1.1.toNat ([] : List Int)).length) then
            bif decide (0 ≤ (l.getD s1.1.toNat ([] : List Int)).getD s3.1.toNat 0) && decide ((l.getD s1.1.toNat ([] : List Int)).getD s3.1.toNat 0 < (s3.2.1.getD s1.1.toNat ([] : List Bool)).length) then
             rec4 (IntKind.i64.wrap (s3.1 + 1), (s3.2.1.set s1.1.toNat ((s3.2.1.getD s1.1.toNat ([] : List Bool)).set ((l.getD s1.1.toNat ([] : List Int)).getD s3.1.toNat 0).toNat true), ()))
            else none
           else none
          else none
         else none
        else rec4 (IntKind.i64.wrap (s3.1 + 1), s3.2.1, ())
       else none
      else none
     else rec4 (IntKind.i64.wrap (s3.1 + 1), s3.2.1, ())
    else none
   else none
  else rec2 (IntKind.i64.wrap (s1.1 + 1), s3.2.1, ())
 else none
def r8waysL2 (l : List (List Int)) (s5 : Int × List (List Bool) × Unit) (s7 : Int × List (List Bool) × Unit) (rec8 : (Int × List (List Bool) × Unit) → Option (List (List Bool) × Unit)) (s9 : Int × List (List Bool) × Unit) (rec10 : (Int × List (List Bool) × Unit) → Option (List (List Bool) × Unit)) : Option (List (List Bool) × Unit) :=
 bif decide (s9.1 < (l.length : Int)) then
  bif decide (0 ≤ s7.1) && decide (s7.1 < s9.2.1.length) then
   bif decide (0 ≤ s7.1) && decide (s7.1 < s9.2.1.length) then
    bif decide (0 ≤ s9.1) && decide (s9.1 < (s9.2.1.getD s7.1.toNat ([] : List Bool)).length) then
     bif (s9.2.1.getD s7.1.toNat ([] : List Bool)).getD s9.1.toNat false then
      bif decide (0 ≤ s9.1) && decide (s9.1 < (s9.2.1.getD s7.1.toNat ([] : List Bool)).length) then
       rec10 (IntKind.i64.wrap (s9.1 + 1), (s9.2.1.set s7.1.toNat ((s9.2.1.getD s7.1.toNat ([] : List Bool)).set s9.1.toNat true), ()))
      else none
     else bif decide (0 ≤ s7.1) && decide (s7.1 < s9.2.1.length) then
      bif decide (0 ≤ s5.1) && decide (s5.1 < (s9.2.1.getD s7.1.toNat ([] : List Bool)).length) then
       bif (s9.2.1.getD s7.1.toNat ([] : List Bool)).getD s5.1.toNat false then
        bif decide (0 ≤ s5.1) && decide (s5.1 < s9.2.1.length) then
         bif decide (0 ≤ s9.1) && decide (s9.1 < (s9.2.1.getD s5.1.toNat ([] : List Bool)).length) then
          bif decide (0 ≤ s9.1) && decide (s9.1 < (s9.2.1.getD s7.1.toNat ([] : List Bool)).length) then
           rec10 (IntKind.i64.wrap (s9.1 + 1), (s9.2.1.set s7.1.toNat ((s9.2.1.getD s7.1.toNat ([] : List Bool)).set s9.1.toNat ((s9.2.1.getD s5.1.toNat ([] : List Bool)).getD s9.1.toNat false)), ()))
          else none
         else none
        else none
       else bif decide (0 ≤ s9.1) && decide (s9.1 < (s9.2.1.getD s7.1.toNat ([] : List Bool)).length) then
        rec10 (IntKind.i64.wrap (s9.1 + 1), (s9.2.1.set s7.1.toNat ((s9.2.1.getD s7.1.toNat ([] : List Bool)).set s9.1.toNat false), ()))
       else none
      else none
     else none
    else none
   else none
  else none
 else rec8 (IntKind.i64.wrap (s7.1 + 1), s9.2.1, ())
def r8waysL3 (l : List (List Int)) (fuel : Nat) (s5 : Int × List (List Bool) × Unit) (rec6 : (Int × List (List Bool) × Unit) → Option (List (List Bool) × Unit)) (s7 : Int × List (List Bool) × Unit) (rec8 : (Int × List (List Bool) × Unit) → Option (List (List Bool) × Unit)) : Option (List (List Bool) × Unit) :=
 bif decide (s7.1 < (l.length : Int)) then
  loopF (r8waysL2 l s5 s7 rec8) fuel ((0 : Int), s7.2.1, ())
 else rec6 (IntKind.i64.wrap (s5.1 + 1), s7.2.1, ())
def r8waysL4 (l : List (List Int)) (fuel : Nat) (s5 : Int × List (List Bool) × Unit) (rec6 : (Int × List (List Bool) × Unit) → Option (List (List Bool) × Unit)) : Option (List (List Bool) × Unit) :=
 bif decide (s5.1 < (l.length : Int)) then
  loopF (r8waysL3 l fuel s5 rec6) fuel ((0 : Int), s5.2.1, ())
 else some (s5.2.1, ())
def r8waysL5 (l : List (List Int)) (fuel : Nat) (s1 : Int × List (List Bool) × Unit) (rec2 : (Int × List (List Bool) × Unit) → Option (List (List Bool) × Unit)) : Option (List (List Bool) × Unit) :=
 bif decide (s1.1 < (l.length : Int)) then
  bif decide (0 ≤ (l.length : Int)) && decide ((l.length : Int) ≤ (l.length : Int)) && decide ((l.length : Int) < (rowMax : Int)) then
   bif decide (0 ≤ s1.1) && decide (s1.1 < s1.2.1.length) then
    loopF (r8waysL1 l s1 rec2) fuel ((0 : Int), s1.2.1.set s1.1.toNat (List.replicate l.length false), ())
   else none
  else none
 else loopF (r8waysL4 l fuel) fuel ((0 : Int), s1.2.1, ())
def r8waysN (fuel : Nat) (l : List (List Int)) : Option (List (List Bool) × Unit) :=
 bif decide (0 ≤ (l.length : Int)) && decide ((l.length : Int) ≤ (l.length : Int)) && decide ((l.length : Int) < (rowMax : Int)) then
  loopF (r8waysL5 l fuel) fuel ((0 : Int), (List.replicate l.length ([] : List Bool), ()))
 else none
def sane11N (m : Im) : Option (Bool × Unit) :=
 bif decide ((m.2.2.2.1.length : Int) ≤ 12) then
  bif decide ((m.1.length : Int) ≤ 8) then
   bif decide ((m.2.2.1.length : Int) ≤ 16) then
    some ((r5sane m) == 0, ())
   else some (false, ())
  else some (false, ())
 else some (false, ())
end Go.Pli

namespace Go.Pli
open Go Go.PM
noncomputable def pick {α : Type} (f : Nat → Option α) : Option α := open Classical in if h : ∃ k, (f k).isSome then f h.choose else none
theorem pick_ok {α : Type} {f : Nat → Option α} {r : α} (h : pick f = some r) : ∃ k, f k = some r := by
 unfold pick at h
 split at h
 ·exact ⟨_, h⟩
 ·cases h
def Ends {α : Type} (f : Nat → Option α) (Q : α → Prop) : Prop := ∃ K, ∀ k, (∃ r, f k = some r ∧ Q r) ∨ (f k = none ∧ k ≤ K)
theorem pick_ends {α : Type} {f : Nat → Option α} {Q : α → Prop} (h : Ends f Q) : ∃ r, pick f = some r ∧ Q r := by
 obtain ⟨K, h⟩ := h
 have hs : ∃ k, (f k).isSome := by
  rcases h (K + 1) with ⟨r, hr, -⟩ | ⟨-, hk⟩
  ·exact ⟨K + 1, by rw [hr]; rfl⟩
  ·omega
 unfold pick
 rw [dif_pos hs]
 have := hs.choose_spec
 rcases h hs.choose with ⟨r, hr, hq⟩ | ⟨hn, -⟩
 ·exact ⟨r, hr, hq⟩
 ·rw [hn] at this; cases this
theorem loop_ends {S R : Type} {L : S → (S → Option R) → Option R} {I : S → Prop} {μ : S → Nat} {Q : R → Prop}
  (h : ∀ s rec, I s → (∃ r, L s rec = some r ∧ Q r) ∨ ∃ s', L s rec = rec s' ∧ I s' ∧ μ s' < μ s) : ∀ (k : Nat) (s : S), I s → (∃ r, loopF L k s = some r ∧ Q r) ∨ (loopF L k s = none ∧ k ≤ μ s)
 | 0, s, _ => .inr ⟨rfl, Nat.zero_le _⟩
 | k + 1, s, hs => by
  rw [loopF_step]
  rcases h s (loopF L k) hs with h1 | ⟨s', h1, hs', hm⟩
  ·exact .inl h1
  ·rw [h1]
   rcases loop_ends h k s' hs' with h2 | ⟨h2, hk⟩
   ·exact .inl h2
   ·exact .inr ⟨h2, by omega⟩
end Go.Pli

namespace Go.Pli
open Go Go.PM
noncomputable section
def fenterN (f : List (List Int) × List Int × List Int × List Bool × List Int × Int × List (List Int) × Unit) (n : Int) : Option ((List (List Int) × List Int × List Int × List Bool × List Int × Int × List (List Int) × Unit) × Unit) :=
 bif decide (0 ≤ n) && decide (n < f.2.1.length) then
  bif decide (0 ≤ n) && decide (n < f.2.2.1.length) then
   bif decide (0 ≤ n) && decide (n < f.2.2.2.1.length) then
    bif decide (f.2.2.2.2.1.length + [n].length < rowMax) && true then
     some ((f.1, f.2.1.set n.toNat (IntKind.i64.wrap (f.2.2.2.2.2.1 + 1)), f.2.2.1.set n.toNat (IntKind.i64.wrap (f.2.2.2.2.2.1 + 1)), f.2.2.2.1.set n.toNat true, f.2.2.2.2.1 ++ [n], IntKind.i64.wrap (f.2.2.2.2.2.1 + 1), f.2.2.2.2.2.2), ())
    else none
   else none
  else none
 else none
def fleaveL1 (f : List (List Int) × List Int × List Int × List Bool × List Int × Int × List (List Int) × Unit) (n : Int) (s1 : List Int × List Bool × List Int × Unit) (rec2 : (List Int × List Bool × List Int × Unit) → Option ((List (List Int) × List Int × List Int × List Bool × List Int × Int × List (List Int) × Unit) × Unit)) : Option ((List (List Int) × List Int × List Int × List Bool × List Int × Int × List (List Int) × Unit) × Unit) :=
 bif decide (0 ≤ IntKind.i64.wrap ((s1.2.2.1.length : Int) - 1)) && decide (IntKind.i64.wrap ((s1.2.2.1.length : Int) - 1) < s1.2.2.1.length) then
  bif decide ((0 : Int) ≤ IntKind.i64.wrap ((s1.2.2.1.length : Int) - 1)) && decide (IntKind.i64.wrap ((s1.2.2.1.length : Int) - 1) ≤ (s1.2.2.1.length : Int)) && true then
   bif decide (0 ≤ s1.2.2.1.getD (IntKind.i64.wrap ((s1.2.2.1.length : Int) - 1)).toNat 0) && decide (s1.2.2.1.getD (IntKind.i64.wrap ((s1.2.2.1.length : Int) - 1)).toNat 0 < s1.2.1.length) then
    bif decide (s1.1.length + [s1.2.2.1.getD (IntKind.i64.wrap ((s1.2.2.1.length : Int) - 1)).toNat 0].length < rowMax) && true then
     bif (s1.2.2.1.getD (IntKind.i64.wrap ((s1.2.2.1.length : Int) - 1)).toNat 0) == n then
      let r3 := sortI (s1.1 ++ [s1.2.2.1.getD (IntKind.i64.wrap ((s1.2.2.1.length : Int) - 1)).toNat 0])
      bif decide (f.2.2.2.2.2.2.1.length + [(idL r3.1)].length < rowMax) && true then
       some ((f.1, f.2.1, f.2.2.1, (s1.2.1.set (s1.2.2.1.getD (IntKind.i64.wrap ((s1.2.2.1.length : Int) - 1)).toNat 0).toNat false, ((s1.2.2.1.take (IntKind.i64.wrap ((s1.2.2.1.length : Int) - 1)).toNat).drop 0, f.2.2.2.2.2.1, f.2.2.2.2.2.2.1 ++ [(idL r3.1)], ()))), ())
      else none
     else rec2 (s1.1 ++ [s1.2.2.1.getD (IntKind.i64.wrap ((s1.2.2.1.length : Int) - 1)).toNat 0], (s1.2.1.set (s1.2.2.1.getD (IntKind.i64.wrap ((s1.2.2.1.length : Int) - 1)).toNat 0).toNat false, ((s1.2.2.1.take (IntKind.i64.wrap ((s1.2.2.1.length : Int) - 1)).toNat).drop 0, ())))
    else none
   else none
  else none
 else none
def fleaveN (fuel : Nat) (f : List (List Int) × List Int × List Int × List Bool × List Int × Int × List (List Int) × Unit) (n : Int) : Option ((List (List Int) × List Int × List Int × List Bool × List Int × Int × List (List Int) × Unit) × Unit) :=
 bif decide (0 ≤ n) && decide (n < f.2.2.1.length) then
  bif decide (0 ≤ n) && decide (n < f.2.1.length) then
   bif (f.2.2.1.getD n.toNat 0) != (f.2.1.getD n.toNat 0) then
    some (f, ())
   else loopF (fleaveL1 f n) fuel (([] : List Int), f.2.2.2.1, f.2.2.2.2.1, ())
  else none
 else none
def fleave (f : List (List Int) × List Int × List Int × List Bool × List Int × Int × List (List Int) × Unit) (n : Int) : Option ((List (List Int) × List Int × List Int × List Bool × List Int × Int × List (List Int) × Unit) × Unit) := pick fun fuel => fleaveN fuel f n
theorem fleave_ok (f : List (List Int) × List Int × List Int × List Bool × List Int × Int × List (List Int) × Unit) (n : Int) (r) (h : fleave f n = some r) : ∃ k, fleaveN k f n = some r := pick_ok h
def ffromL1 (s2 : List Tp × List Int × List Int × List Bool × List Int × List (List Int) × (List (List Int) × Unit × Unit × Unit × Unit × Int × Unit × Unit) × Unit) (rec3 : (List Tp × List Int × List Int × List Bool × List Int × List (List Int) × (List (List Int) × Unit × Unit × Unit × Unit × Int × Unit × Unit) × Unit) → Option ((List (List Int) × List Int × List Int × List Bool × List Int × Int × List (List Int) × Unit) × Unit)) (s4 : List Tp × Int × List Int × Unit) (rec5 : (List Tp × Int × List Int × Unit) → Option ((List (List Int) × List Int × List Int × List Bool × List Int × Int × List (List Int) × Unit) × Unit)) : Option ((List (List Int) × List Int × List Int × List Bool × List Int × Int × List (List Int) × Unit) × Unit) :=
 bif decide (0 ≤ (s4.1.getD s4.2.1.toNat zTp).1) && decide ((s4.1.getD s4.2.1.toNat zTp).1 < s2.2.2.2.2.2.2.1.1.length) then
  bif decide ((s4.1.getD s4.2.1.toNat zTp).2.1 < ((s2.2.2.2.2.2.2.1.1.getD (s4.1.getD s4.2.1.toNat zTp).1.toNat ([] : List Int)).length : Int)) then
   bif decide (0 ≤ (s4.1.getD s4.2.1.toNat zTp).1) && decide ((s4.1.getD s4.2.1.toNat zTp).1 < s2.2.2.2.2.2.2.1.1.length) then
    bif decide (0 ≤ (s4.1.getD s4.2.1.toNat zTp).2.1) && decide ((s4.1.getD s4.2.1.toNat zTp).2.1 < (s2.2.2.2.2.2.2.1.1.getD (s4.1.getD s4.2.1.toNat zTp).1.toNat ([] : List Int)).length) then
     (bif decide ((s2.2.2.2.2.2.2.1.1.getD (s4.1.getD s4.2.1.toNat zTp).1.toNat ([] : List Int)).getD (s4.1.getD s4.2.1.toNat zTp).2.1.toNat 0 < 0) then
      some (.inl (true, ()))
     else some (.inl (decide ((s2.2.2.2.2.2.2.1.1.getD (s4.1.getD s4.2.1.toNat zTp).1.toNat ([] : List Int)).getD (s4.1.getD s4.2.1.toNat zTp).2.1.toNat 0 ≥ (s2.2.2.2.2.2.2.1.1.length : Int)), ())) : Option ((Bool × Unit) ⊕ ((List (List Int) × List Int × List Int × List Bool × List Int × Int × List (List Int) × Unit) × Unit))).bind fun q => match q with
     | .inr r7 => some r7
     | .inl s6 =>
      bif s6.1 then
       rec5 (s4.1.set s4.2.1.toNat ((s4.1.getD s4.2.1.toNat zTp).1, IntKind.i64.wrap (((s4.1.getD s4.2.1.toNat zTp).2.1) + 1), ()), ((s4.2.1.toNat : Int), s4.2.2.1, ()))
      else bif decide (0 ≤ (s2.2.2.2.2.2.2.1.1.getD (s4.1.getD s4.2.1.toNat zTp).1.toNat ([] : List Int)).getD (s4.1.getD s4.2.1.toNat zTp).2.1.toNat 0) && decide ((s2.2.2.2.2.2.2.1.1.getD (s4.1.getD s4.2.1.toNat zTp).1.toNat ([] : List Int)).getD (s4.1.getD s4.2.1.toNat zTp).2.1.toNat 0 < s2.2.1.length) then
       bif (s2.2.1.getD ((s2.2.2.2.2.2.2.1.1.getD (s4.1.getD s4.2.1.toNat zTp).1.toNat ([] : List Int)).getD (s4.1.getD s4.2.1.toNat zTp).2.1.toNat 0).toNat 0) == 0 then
        bif decide ((s4.1.set s4.2.1.toNat ((s4.1.getD s4.2.1.toNat zTp).1, IntKind.i64.wrap (((s4.1.getD s4.2.1.toNat zTp).2.1) + 1), ())).length + [((s2.2.2.2.2.2.2.1.1.getD (s4.1.getD s4.2.1.toNat zTp).1.toNat ([] : List Int)).getD (s4.1.getD s4.2.1.toNat zTp).2.1.toNat 0, ((0 : Int), ()))].length < rowMax) && true then
         (fenterN (s2.2.2.2.2.2.2.1.1, s2.2.1, s4.2.2.1, s2.2.2.2.1, s2.2.2.2.2.1, s2.2.2.2.2.2.2.1.2.2.2.2.2.1, s2.2.2.2.2.2.1, ()) ((s2.2.2.2.2.2.2.1.1.getD (s4.1.getD s4.2.1.toNat zTp).1.toNat ([] : List Int)).getD (s4.1.getD s4.2.1.toNat zTp).2.1.toNat 0)).bind fun r8 =>
         rec3 ((s4.1.set s4.2.1.toNat ((s4.1.getD s4.2.1.toNat zTp).1, IntKind.i64.wrap (((s4.1.getD s4.2.1.toNat zTp).2.1) + 1), ())) ++ [((s2.2.2.2.2.2.2.1.1.getD (s4.1.getD s4.2.1.toNat zTp).1.toNat ([] : List Int)).getD (s4.1.getD s4.2.1.toNat zTp).2.1.toNat 0, ((0 : Int), ()))], r8.1.2.1, r8.1.2.2.1, r8.1.2.2.2.1, r8.1.2.2.2.2.1, r8.1.2.2.2.2.2.2.1, (r8.1.1, (), (), (), (), r8.1.2.2.2.2.2.1, (), ()), ())
        else none
       else bif decide (0 ≤ (s2.2.2.2.2.2.2.1.1.getD (s4.1.getD s4.2.1.toNat zTp).1.toNat ([] : List Int)).getD (s4.1.getD s4.2.1.toNat zTp).2.1.toNat 0) && decide ((s2.2.2.2.2.2.2.1.1.getD (s4.1.getD s4.2.1.toNat zTp).1.toNat ([] : List Int)).getD (s4.1.getD s4.2.1.toNat zTp).2.1.toNat 0 < s2.2.2.2.1.length) then
        bif s2.2.2.2.1.getD ((s2.2.2.2.2.2.2.1.1.getD (s4.1.getD s4.2.1.toNat zTp).1.toNat ([] : List Int)).getD (s4.1.getD s4.2.1.toNat zTp).2.1.toNat 0).toNat false then
         bif decide (0 ≤ ((s4.1.set s4.2.1.toNat ((s4.1.getD s4.2.1.toNat zTp).1, IntKind.i64.wrap (((s4.1.getD s4.2.1.toNat zTp).2.1) + 1), ())).getD s4.2.1.toNat zTp).1) && decide (((s4.1.set s4.2.1.toNat ((s4.1.getD s4.2.1.toNat zTp).1, IntKind.i64.wrap (((s4.1.getD s4.2.1.toNat zTp).2.1) + 1), ())).getD s4.2.1.toNat zTp).1 < s4.2.2.1.length) then
          bif decide (0 ≤ (s2.2.2.2.2.2.2.1.1.getD (s4.1.getD s4.2.1.toNat zTp).1.toNat ([] : List Int)).getD (s4.1.getD s4.2.1.toNat zTp).2.1.toNat 0) && decide ((s2.2.2.2.2.2.2.1.1.getD (s4.1.getD s4.2.1.toNat zTp).1.toNat ([] : List Int)).getD (s4.1.getD s4.2.1.toNat zTp).2.1.toNat 0 < s2.2.1.length) then
           bif decide (0 ≤ ((s4.1.set s4.2.1.toNat ((s4.1.getD s4.2.1.toNat zTp).1, IntKind.i64.wrap (((s4.1.getD s4.2.1.toNat zTp).2.1) + 1), ())).getD s4.2.1.toNat zTp).1) && decide (((s4.1.set s4.2.1.toNat ((s4.1.getD s4.2.1.toNat zTp).1, IntKind.i64.wrap (((s4.1.getD s4.2.1.toNat zTp).2.1) + 1), ())).getD s4.2.1.toNat zTp).1 < s4.2.2.1.length) then
            rec5 (s4.1.set s4.2.1.toNat ((s4.1.getD s4.2.1.toNat zTp).1, IntKind.i64.wrap (((s4.1.getD s4.2.1.toNat zTp).2.1) + 1), ()), ((s4.2.1.toNat : Int), s4.2.2.1.set ((s4.1.set s4.2.1.toNat ((s4.1.getD s4.2.1.toNat zTp).1, IntKind.i64.wrap (((s4.1.getD s4.2.1.toNat zTp).2.1) + 1), ())).getD s4.2.1.toNat zTp).1.toNat (min (s4.2.2.1.getD ((s4.1.set s4.2.1.toNat ((s4.1.getD s4.2.1.toNat zTp).1, IntKind.i64.wrap (((s4.1.getD s4.2.1.toNat zTp).2.1) + 1), ())).getD s4.2.1.toNat zTp).1.toNat 0) (s2.2.1.getD ((s2.2.2.2.2.2.2.1.1.getD (s4.1.getD s4.2.1.toNat zTp).1.toNat ([] : List Int)).getD (s4.1.getD s4.2.1.toNat zTp).2.1.toNat 0).toNat 0)), ()))
           else none
          else none
         else none
        else rec5 (s4.1.set s4.2.1.toNat ((s4.1.getD s4.2.1.toNat zTp).1, IntKind.i64.wrap (((s4.1.getD s4.2.1.toNat zTp).2.1) + 1), ()), ((s4.2.1.toNat : Int), s4.2.2.1, ()))
       else none
      else none
    else none
   else none
  else bif decide ((0 : Int) ≤ IntKind.i64.wrap ((s4.1.length : Int) - 1)) && decide (IntKind.i64.wrap ((s4.1.length : Int) - 1) ≤ (s4.1.length : Int)) && true then
   (fleave (s2.2.2.2.2.2.2.1.1, s2.2.1, s4.2.2.1, s2.2.2.2.1, s2.2.2.2.2.1, s2.2.2.2.2.2.2.1.2.2.2.2.2.1, s2.2.2.2.2.2.1, ()) (s4.1.getD s4.2.1.toNat zTp).1).bind fun r9 =>
   bif decide ((((s4.1.take (IntKind.i64.wrap ((s4.1.length : Int) - 1)).toNat).drop 0).length : Int) > 0) then
    bif decide (0 ≤ IntKind.i64.wrap ((((s4.1.take (IntKind.i64.wrap ((s4.1.length : Int) - 1)).toNat).drop 0).length : Int) - 1)) && decide (IntKind.i64.wrap ((((s4.1.take (IntKind.i64.wrap ((s4.1.length : Int) - 1)).toNat).drop 0).length : Int) - 1) < ((s4.1.take (IntKind.i64.wrap ((s4.1.length : Int) - 1)).toNat).drop 0).length) then
     bif decide (0 ≤ (((s4.1.take (IntKind.i64.wrap ((s4.1.length : Int) - 1)).toNat).drop 0).getD (IntKind.i64.wrap ((((s4.1.take (IntKind.i64.wrap ((s4.1.length : Int) - 1)).toNat).drop 0).length : Int) - 1)).toNat zTp).1) && decide ((((s4.1.take (IntKind.i64.wrap ((s4.1.length : Int) - 1)).toNat).drop 0).getD (IntKind.i64.wrap ((((s4.1.take (IntKind.i64.wrap ((s4.1.length : Int) - 1)).toNat).drop 0).length : Int) - 1)).toNat zTp).1 < r9.1.2.2.1.length) then
      bif decide (0 ≤ (s4.1.getD s4.2.1.toNat zTp).1) && decide ((s4.1.getD s4.2.1.toNat zTp).1 < r9.1.2.2.1.length) then
       bif decide (0 ≤ (((s4.1.take (IntKind.i64.wrap ((s4.1.length : Int) - 1)).toNat).drop 0).getD (IntKind.i64.wrap ((((s4.1.take (IntKind.i64.wrap ((s4.1.length : Int) - 1)).toNat).drop 0).length : Int) - 1)).toNat zTp).1) && decide ((((s4.1.take (IntKind.i64.wrap ((s4.1.length : Int) - 1)).toNat).drop 0).getD (IntKind.i64.wrap ((((s4.1.take (IntKind.i64.wrap ((s4.1.length : Int) - 1)).toNat).drop 0).length : Int) - 1)).toNat zTp).1 < r9.1.2.2.1.length) then
        rec3 ((s4.1.take (IntKind.i64.wrap ((s4.1.length : Int) - 1)).toNat).drop 0, r9.1.2.1, (r9.1.2.2.1.set (((s4.1.take (IntKind.i64.wrap ((s4.1.length : Int) - 1)).toNat).drop 0).getD (IntKind.i64.wrap ((((s4.1.take (IntKind.i64.wrap ((s4.1.length : Int) - 1)).toNat).drop 0).length : Int) - 1)).toNat zTp).1.toNat (min (r9.1.2.2.1.getD (((s4.1.take (IntKind.i64.wrap ((s4.1.length : Int) - 1)).toNat).drop 0).getD (IntKind.i64.wrap ((((s4.1.take (IntKind.i64.wrap ((s4.1.length : Int) - 1)).toNat).drop 0).length : Int) - 1)).toNat zTp).1.toNat 0) (r9.1.2.2.1.getD (s4.1.getD s4.2.1.toNat zTp).1.toNat 0)), r9.1.2.2.2.1, r9.1.2.2.2.2.1, r9.1.2.2.2.2.2.2.1, (r9.1.1, (), (), (), (), r9.1.2.2.2.2.2.1, (), ()), ()))
       else none
      else none
     else none
    else none
   else rec3 ((s4.1.take (IntKind.i64.wrap ((s4.1.length : Int) - 1)).toNat).drop 0, r9.1.2.1, r9.1.2.2.1, r9.1.2.2.2.1, r9.1.2.2.2.2.1, r9.1.2.2.2.2.2.2.1, (r9.1.1, (), (), (), (), r9.1.2.2.2.2.2.1, (), ()), ())
  else none
 else none
def ffromL2 (fuel : Nat) (s2 : List Tp × List Int × List Int × List Bool × List Int × List (List Int) × (List (List Int) × Unit × Unit × Unit × Unit × Int × Unit × Unit) × Unit) (rec3 : (List Tp × List Int × List Int × List Bool × List Int × List (List Int) × (List (List Int) × Unit × Unit × Unit × Unit × Int × Unit × Unit) × Unit) → Option ((List (List Int) × List Int × List Int × List Bool × List Int × Int × List (List Int) × Unit) × Unit)) : Option ((List (List Int) × List Int × List Int × List Bool × List Int × Int × List (List Int) × Unit) × Unit) :=
 bif decide ((s2.1.length : Int) > 0) then
  bif decide (0 ≤ IntKind.i64.wrap ((s2.1.length : Int) - 1)) && decide (IntKind.i64.wrap ((s2.1.length : Int) - 1) < s2.1.length) then
   loopF (ffromL1 s2 rec3) fuel (s2.1, (((IntKind.i64.wrap ((s2.1.length : Int) - 1)).toNat : Int), s2.2.2.1, ()))
  else none
 else some ((s2.2.2.2.2.2.2.1.1, s2.2.1, s2.2.2.1, s2.2.2.2.1, s2.2.2.2.2.1, s2.2.2.2.2.2.2.1.2.2.2.2.2.1, s2.2.2.2.2.2.1, ()), ())
def ffromN (fuel : Nat) (f : List (List Int) × List Int × List Int × List Bool × List Int × Int × List (List Int) × Unit) (n : Int) : Option ((List (List Int) × List Int × List Int × List Bool × List Int × Int × List (List Int) × Unit) × Unit) :=
 (fenterN f n).bind fun r1 =>
 loopF (ffromL2 fuel) fuel (([(n, ((0 : Int), ()))] : List Tp), r1.1.2.1, r1.1.2.2.1, r1.1.2.2.2.1, r1.1.2.2.2.2.1, r1.1.2.2.2.2.2.2.1, (r1.1.1, (), (), (), (), r1.1.2.2.2.2.2.1, (), ()), ())
def ffrom (f : List (List Int) × List Int × List Int × List Bool × List Int × Int × List (List Int) × Unit) (n : Int) : Option ((List (List Int) × List Int × List Int × List Bool × List Int × Int × List (List Int) × Unit) × Unit) := pick fun fuel => ffromN fuel f n
theorem ffrom_ok (f : List (List Int) × List Int × List Int × List Bool × List Int × Int × List (List Int) × Unit) (n : Int) (r) (h : ffrom f n = some r) : ∃ k, ffromN k f n = some r := pick_ok h
def clipION (s : List Int) : Option (List Int × Unit) :=
 bif decide ((s.length : Int) = (s.length : Int)) && decide ((s.length : Int) = (s.length : Int)) && true then
  some (s, ())
 else none
def clipIION (s : List (List Int)) : Option (List (List Int) × Unit) :=
 bif decide ((s.length : Int) = (s.length : Int)) && decide ((s.length : Int) = (s.length : Int)) && true then
  some (s, ())
 else none
def ringsL1 (l : List (List Int)) (s1 : Int × List Int × List Int × List Bool × List Int × List (List Int) × (List (List Int) × Unit × Unit × Unit × Unit × Int × Unit × Unit) × Unit) (rec2 : (Int × List Int × List Int × List Bool × List Int × List (List Int) × (List (List Int) × Unit × Unit × Unit × Unit × Int × Unit × Unit) × Unit) → Option (List (List Int) × Unit)) : Option (List (List Int) × Unit) :=
 bif decide (s1.1 < (l.length : Int)) then
  bif decide (0 ≤ s1.1) && decide (s1.1 < s1.2.1.length) then
   bif (s1.2.1.getD s1.1.toNat 0) == 0 then
    (ffrom (s1.2.2.2.2.2.2.1.1, s1.2.1, s1.2.2.1, s1.2.2.2.1, s1.2.2.2.2.1, s1.2.2.2.2.2.2.1.2.2.2.2.2.1, s1.2.2.2.2.2.1, ()) s1.1).bind fun r3 =>
    rec2 (IntKind.i64.wrap (s1.1 + 1), r3.1.2.1, r3.1.2.2.1, r3.1.2.2.2.1, r3.1.2.2.2.2.1, r3.1.2.2.2.2.2.2.1, (r3.1.1, (), (), (), (), r3.1.2.2.2.2.2.1, (), ()), ())
   else rec2 (IntKind.i64.wrap (s1.1 + 1), s1.2.1, s1.2.2.1, s1.2.2.2.1, s1.2.2.2.2.1, s1.2.2.2.2.2.1, s1.2.2.2.2.2.2.1, ())
  else none
 else some ((idL s1.2.2.2.2.2.1), ())
def ringsN (fuel : Nat) (l : List (List Int)) : Option (List (List Int) × Unit) :=
 bif decide (0 ≤ (l.length : Int)) && decide ((l.length : Int) ≤ (l.length : Int)) && decide ((l.length : Int) < (rowMax : Int)) then
  bif decide (0 ≤ (l.length : Int)) && decide ((l.length : Int) ≤ (l.length : Int)) && decide ((l.length : Int) < (rowMax : Int)) then
   bif decide (0 ≤ (l.length : Int)) && decide ((l.length : Int) ≤ (l.length : Int)) && decide ((l.length : Int) < (rowMax : Int)) then
    loopF (ringsL1 l) fuel ((0 : Int), (List.replicate l.length (0 : Int), (List.replicate l.length (0 : Int), List.replicate l.length false, (([] : List Int), (([] : List (List Int)), (l, (), (), (), (), ((0 : Int), (), ())), ())))))
   else none
  else none
 else none
def rings (l : List (List Int)) : Option (List (List Int) × Unit) := pick fun fuel => ringsN fuel l
theorem rings_ok (l : List (List Int)) (r) (h : rings l = some r) : ∃ k, ringsN k l = some r := pick_ok h
end
end Go.Pli

namespace Go.Pli
open Go Go.PM
abbrev Sh := Bool × List Tp × Unit
abbrev zSh : Sh := (false, [], ())
abbrev Iq := List Int × Int × Unit
abbrev zIq : Iq := ([], 0, ())
def saneP (m : Im) : Bool := ifits m && saneB m
def okSS (l : List (List Sh)) : Bool := okL l && l.all fun h => okL h && h.all fun s => okL s.2.1
def indexI (s : List Int) (v : Int) : Int := indexF (fun x => v == x) 0 s
def containsI (s : List Int) (v : Int) : Bool := s.contains v
def fieldsB (m : Im) (c : Int) : List Tp := (((raboveB m.1 c).reverse).map fun s => (clOf m s).2.1).flatten
def sizeB (m : Im) (c : Int) : Int := ((1 + (fieldsB m c).length : Nat) : Int)
def localB (x : Mt) (n : Int) : Tp := bif decide (n < 0) then zTp else (x.1 ++ x.2.1).getD n.toNat zTp
def joinB (l : List Cl) (a b : Tp) : Tp :=
 bif ksub l a b then b else bif ksub l b a then a else bif a.1 != 3 || b.1 != 3 then zTp else
 match (chain l (kup l a.2.1)).find? fun c => kbelow l b.2.1 c with
 | some c => (3, c, ())
 | none => zTp
def numIs (o : Int) : Bool := decide (o ≥ 7) && decide (o ≤ 17)
abbrev tI : Tp := (1, 0, ())
abbrev tA : Tp := (2, 0, ())
abbrev tN : Tp := (4, 0, ())
abbrev tR (c : Int) : Tp := (3, c, ())
abbrev Eff := List Tp × List Tp × Unit
def fplain (o : Int) : Eff × Bool × Unit :=
 bif o == 2 then (([], [tN], ()), true, ())
 else bif o == 5 then (([zTp], [], ()), true, ())
 else bif o == 20 then (([tN], [tI], ()), true, ())
 else bif o == 21 then (([tN, tN], [tI], ()), true, ())
 else bif o == 24 then (([tA, tI], [tI], ()), true, ())
 else bif o == 25 then (([tA, tI, tI], [], ()), true, ())
 else bif o == 26 then (([tA], [tI], ()), true, ())
 else bif o == 1 then (([], [tI], ()), true, ())
 else bif o == 19 then (([tI], [], ()), true, ())
 else bif o == 18 then (([], [], ()), true, ())
 else bif o == 23 then (([tI], [tA], ()), true, ())
 else bif numIs o then (([tI, tI], [tI], ()), true, ())
 else (([], [], ()), false, ())
def calledB (x : Mt) (t : List Tp) : Eff := (t ++ x.1.drop t.length, bif x.2.2.1.1 != 5 then [x.2.2.1] else [], ())
def effB (m : Im) (x : Mt) (i : Ins) : Eff :=
 bif (fplain i.1).2.1 then (fplain i.1).1
 else bif i.1 == 3 then ([], [localB x i.2.1], ())
 else bif i.1 == 4 then ([localB x i.2.1], [], ())
 else bif i.1 == 22 then ([], [tR i.2.1], ())
 else bif i.1 == 27 then ([tR i.2.1], [(fieldsB m i.2.1).getD i.2.2.1.toNat zTp], ())
 else bif i.1 == 28 then ([tR i.2.1, (fieldsB m i.2.1).getD i.2.2.1.toNat zTp], [], ())
 else bif i.1 == 29 then ([], [m.2.1.getD i.2.1.toNat zTp], ())
 else bif i.1 == 30 then ([m.2.1.getD i.2.1.toNat zTp], [], ())
 else bif i.1 == 31 then calledB (mtOf m i.2.1) []
 else bif i.1 == 32 then calledB (mtOf m (cslot m i.2.1 i.2.2.1).1) [tR i.2.1]
 else bif i.1 == 34 then ([tN], [tR i.2.1], ())
 else bif i.1 == 33 then (bif x.2.2.1.1 != 5 then ([x.2.2.1], [], ()) else ([], [], ()))
 else ([], [], ())
def ffits (m : Im) (o : Int) (t w : Tp) : Bool := bif w.1 == 0 then true else bif w.1 == 4 then kisref t && (o != 34 || t.1 != 2) else ksub m.1 t w
def fnexts (i : Ins) (pc : Int) : List Int :=
 bif i.1 == 18 then [i.2.1] else bif i.1 == 19 then [IntKind.i64.wrap (pc + 1), i.2.1] else bif i.1 == 33 then [] else [IntKind.i64.wrap (pc + 1)]
def insOf (m : Im) (f pc : Int) : Ins := (mtOf m f).2.2.2.1.getD pc.toNat zIns
def codeN (m : Im) (f : Int) : Nat := (mtOf m f).2.2.2.1.length
abbrev St4 := List Tp × List Int × Int × Unit
def stepE (m : Im) (i : Ins) (e : Eff) (s : List Tp) (nx : List Int) : St4 :=
 bif decide (s.length < e.1.length) || decide (s.length - e.1.length + e.2.1.length > 8) then ([], [], 4, ())
 else bif ((s.drop (s.length - e.1.length)).zip e.1).all fun p => ffits m i.1 p.1 p.2 then (s.take (s.length - e.1.length) ++ e.2.1, nx, 0, ())
 else ([], [], 4, ())
def stepB (m : Im) (f pc : Int) (s : List Tp) : St4 :=
 bif !(inM m f && sin pc (codeN m f : Int)) then ([], [], 1, ())
 else bif (fnexts (insOf m f pc) pc).contains (codeN m f : Int) then ([], [], 4, ())
 else bif (insOf m f pc).1 == 6 then (bif decide (s.length = 0) || decide (s.length ≥ 8) then ([], [], 4, ()) else (s ++ s.drop (s.length - 1), fnexts (insOf m f pc) pc, 0, ()))
 else stepE m (insOf m f pc) (effB m (mtOf m f) (insOf m f pc)) s (fnexts (insOf m f pc) pc)
def mergeO (l : List Cl) (a s : List Tp) : List Tp := (a.zip s).map fun p => joinB l p.1 p.2
def mergeB (l : List Cl) (o : Sh) (s : List Tp) : Sh × Bool × Bool × Unit :=
 bif !o.1 then ((true, s, ()), true, true, ())
 else bif decide (o.2.1.length ≠ s.length) then (o, false, false, ())
 else bif (mergeO l o.2.1 s).any fun t => t.1 == 0 then (o, false, false, ())
 else ((true, mergeO l o.2.1 s, ()), !(mergeO l o.2.1 s == o.2.1), true, ())
def oneF (l : List Cl) (a : List Tp) : List Int → List Sh → List Bool → Bool × List Sh × List Bool × Unit
 | [], h, q => (true, h, q, ())
 | to :: r, h, q =>
  bif !(mergeB l (h.getD to.toNat zSh) a).2.2.1 then (false, h, q, ())
  else bif (mergeB l (h.getD to.toNat zSh) a).2.1 then oneF l a r (h.set to.toNat (mergeB l (h.getD to.toNat zSh) a).1) (q.set to.toNat true)
  else oneF l a r h q
def toneB (m : Im) (f pc : Int) (h : List Sh) (q : List Bool) : Bool × List Sh × List Bool × Unit :=
 bif (stepB m f pc (h.getD pc.toNat zSh).2.1).2.2.1 != 0 then (false, h, q, ())
 else oneF m.1 (stepB m f pc (h.getD pc.toNat zSh).2.1).1 (stepB m f pc (h.getD pc.toNat zSh).2.1).2.1 h q
def oneP (m : Im) (f pc : Int) (h : List Sh) (q : List Bool) : Bool :=
 saneP m && (inM m f && (sin pc (codeN m f : Int) && (decide (h.length = codeN m f) && (decide (q.length = codeN m f) && h.all fun s => okL s.2.1))))
def tone (m : Im) (f pc : Int) (h : List Sh) (q : List Bool) : Option (Bool × List Sh × List Bool × Unit) := bif oneP m f pc h q then some (toneB m f pc h q) else none
def walkM (m : Im) (f : Int) : Nat → List Sh → List Bool → Option (List Sh × Int × Int × Unit)
 | 0, _, _ => none
 | n + 1, h, q => bif q.any id then (tone m f (q.findIdx id : Int) h (q.set (q.findIdx id) false)).bind fun r =>
   bif !r.1 then some ([], (q.findIdx id : Int), 4, ()) else walkM m f n r.2.1 r.2.2.1
  else some (h, 0, 0, ())
def tmethod (m : Im) (f : Int) : Option (List Sh × Int × Int × Unit) :=
 bif saneP m && inM m f then walkM m f (100 * codeN m f + 2) ((List.replicate (codeN m f) zSh).set 0 (true, [], ())) ((List.replicate (codeN m f) false).set 0 true) else none
def checkM (m : Im) : List Int → List (List Sh) → Option (List (List Sh) × Int × Int × Int × Unit)
 | [], out => some (out, 0, 0, 0, ())
 | f :: l, out => (tmethod m f).bind fun r => bif r.2.2.1 != 0 then some ([], f, r.2.1, r.2.2.1, ()) else checkM m l (out ++ [r.1])
def tcheck (m : Im) : Option (List (List Sh) × Int × Int × Int × Unit) := bif saneP m then checkM m (ints m.2.2.2.1.length) [] else none
def maxL (l : List Int) : Int := l.foldl max 0
def deepB (l : List (List Sh)) (f : Int) : Int := bif sin f (l.length : Int) then maxL ((l.getD f.toNat []).map fun s => (s.2.1.length : Int)) else 0
def tdeep (l : List (List Sh)) (f : Int) : Option (Int × Unit) := bif okSS l then some (deepB l f, ()) else none
def frameB (m : Im) (l : List (List Sh)) (f : Int) : Int := bif inM m f then ((3 + (mtOf m f).1.length + (mtOf m f).2.1.length : Nat) : Int) + deepB l f else 0
def cyc1 (to : Int) (part : List Int) : Bool := part.contains to
def indexCyc (l : List Int) (c : List Int × Unit) : Int := indexF (fun x => cyc1 x c.1) 0 l
def containsCyc (l : List Int) (c : List Int × Unit) : Bool := l.any fun x => cyc1 x c.1
def cyclicB (l : List (List Int)) (part : List Int) : Bool := part.any fun k => sin k (l.length : Int) && (l.getD k.toNat []).any fun to => part.contains to
def cyclic (l : List (List Int)) (part : List Int) : Option (Bool × Unit) := bif okL part then some (cyclicB l part, ()) else none
def beyondF (part out : List Int) : List Int → Int → Int
 | [], b => b
 | to :: r, b => beyondF part out r (bif !part.contains to && decide (to < (out.length : Int)) then max b (out.getD to.toNat 0) else b)
def partF (m : Im) (l : List (List Sh)) (ed : List (List Int)) (part out : List Int) (cyc : Bool) : List Int → Int → Int → Option (Int × Int)
 | [], a, b => some (a, b)
 | f :: r, a, b => bif decide ((bif cyc then (mtOf m f).2.2.2.2.1 else 1) < 1) then none
  else partF m l ed part out cyc r (IntKind.i64.wrap (a + IntKind.i64.wrap ((bif cyc then (mtOf m f).2.2.2.2.1 else 1) * frameB m l f))) (beyondF part out (ed.getD f.toNat []) b)
def setF (v : Int) : List Int → List Int → List Int
 | [], out => out
 | f :: r, out => setF v r (out.set f.toNat v)
def ringsF (m : Im) (l : List (List Sh)) (ed : List (List Int)) : List (List Int) → List Int → List Int × Int × Unit
 | [], out => (out, 0, ())
 | part :: ps, out => match partF m l ed part out (cyclicB ed part) part 0 0 with
  | none => ([], 5, ())
  | some a => ringsF m l ed ps (setF (IntKind.i64.wrap (a.1 + a.2)) part out)
def ofAll (m : Im) : List (List Int) := (ints m.2.2.2.1.length).map (ofB m)
def edOk (m : Im) : Bool := (ofAll m).all fun e => okL e && e.all (inM m)
noncomputable def dbound (m : Im) (l : List (List Sh)) : Option (List Int × Int × Unit) := bif saneP m && (okSS l && edOk m) then (rings (ofAll m)).bind fun r => bif okL r.1 && r.1.all (fun p => okL p && p.all (inM m)) then some (ringsF m l (ofAll m) r.1 (List.replicate m.2.2.2.1.length 0)) else none else none
abbrev Sure := Int × Bool × Unit
def lof (n : Int) : Sure := (n, decide (n > -4611686018427387904) && decide (n < 4611686018427387904), ())
def lsize (n : Int) : Int := bif decide (n < 0) then IntKind.u64.wrap (IntKind.i64.wrap (0 - n)) else IntKind.u64.wrap n
def plusB (a b : Sure) : Sure := bif a.2.1 && b.2.1 then lof (IntKind.i64.wrap (a.1 + b.1)) else (0, false, ())
def timesB (a b : Sure) : Sure :=
 bif a.2.1 && b.2.1 then (bif decide (lsize a.1 * lsize b.1 / 18446744073709551616 ≠ 0) || decide (lsize a.1 * lsize b.1 % 18446744073709551616 ≥ 4611686018427387904) then (0, false, ()) else lof (IntKind.i64.wrap (a.1 * b.1))) else (0, false, ())
def sumS : List (Int × Int) → Sure → Sure
 | [], a => a
 | p :: r, a => sumS r (plusB a (timesB (lof p.1) (lof p.2)))
def holdsE (most : Int) (s : Sure) : Bool × Int × Unit := bif !s.2.1 then (false, 14, ()) else (decide (s.1 ≤ most), 0, ())
def holdsB (q : Iq) (v : List Int) : Bool × Int × Unit := bif decide (q.1.length ≠ v.length) then (false, 14, ()) else holdsE q.2.1 (sumS (q.1.zip v) (lof 0))
def shapeB (l : List (List Sh)) (f pc : Int) : Sh := (l.getD f.toNat []).getD pc.toNat zSh
def potOf (m : Im) (f : Int) : Int := (mtOf m f).2.2.2.2.2.1
def costB (m : Im) (i : Ins) : Int :=
 bif i.1 == 22 then sizeB m i.2.1 else bif i.1 == 23 then IntKind.i64.wrap (1 + max 0 (min i.2.1 255)) else maxL (((targetsB m i).filter (inM m)).map (potOf m))
def addA (z : List Int) (a d : Int) : List Int := bif decide (a ≥ 0) then z.set a.toNat (IntKind.i64.wrap (z.getD a.toNat 0 + d)) else z
def rowB (n a b c : Int) : Iq := (addA (addA (List.replicate n.toNat 0) a (-1)) b 1, c, ())
def ruleAt (m : Im) (l : List (List Sh)) (f pc : Int) : List Iq :=
 bif !(shapeB l f pc).1 then [] else
 bif (stepB m f pc (shapeB l f pc).2.1).2.2.1 != 0 then [] else
 (bif decide ((stepB m f pc (shapeB l f pc).2.1).2.1.length = 0) then [rowB (codeN m f : Int) pc (-1) 0] else []) ++
 (stepB m f pc (shapeB l f pc).2.1).2.1.map fun to => rowB (codeN m f : Int) pc to (IntKind.i64.wrap (0 - costB m (insOf m f pc)))
def rulesB (m : Im) (l : List (List Sh)) (f : Int) : List Iq :=
 bif inM m f then rowB (codeN m f : Int) (-1) 0 (potOf m f) :: ((List.range (codeN m f)).map fun k : Nat => ruleAt m l f (k : Int)).flatten else []
def negB (n : Int) : Bool := decide (n < 0)
def phiOf (m : Im) (f : Int) : List Int := (mtOf m f).2.2.2.2.2.2.1
def goodR (m : Im) (f : Int) (q : Iq) : Bool := decide ((holdsB q (phiOf m f)).2.1 = 0) && (holdsB q (phiOf m f)).1
def potM (m : Im) (l : List (List Sh)) : List Int → Int × Int × Unit
 | [] => (0, 0, ())
 | f :: r => bif (rulesB m l f).all (goodR m f) then (bif (phiOf m f).any negB then (f, 6, ()) else potM m l r) else (f, 6, ())
def pcheck (m : Im) (l : List (List Sh)) : Option (Int × Int × Unit) := bif saneP m && okSS l then some (potM m l (ints m.2.2.2.1.length)) else none
def needF (m : Im) (bd : List Int) : List Int → Int → Int → Int × Int
 | [], s, h => (s, h)
 | f :: r, s, h => bif decide (f ≥ 0) && decide (f < (bd.length : Int)) then needF m bd r (max s (bd.getD f.toNat 0)) (max h (potOf m f)) else needF m bd r s h
def needB (m : Im) (r : List Int × Int × Unit) : Int × Int × Int × Unit :=
 bif r.2.1 != 0 then (0, 0, r.2.1, ()) else ((needF m r.1 m.2.2.2.2.1 0 0).1, IntKind.i64.wrap ((m.2.1.length : Int) + (needF m r.1 m.2.2.2.2.1 0 0).2), 0, ())
noncomputable def aneeds (m : Im) (l : List (List Sh)) : Option (Int × Int × Int × Unit) := bif saneP m then (dbound m l).bind fun r => some (needB m r) else none
end Go.Pli

namespace Go.Pli
open Go Go.PM
def rjoin (l : List Cl) (a b : Tp) : Option (Tp × Unit) := bif okL l then some (joinB l a b, ()) else none
def r8step (m : Im) (f pc : Int) (s : List Tp) : Option St4 := bif saneP m && okL s then some (stepB m f pc s) else none
def flowE (l : List Cl) (a : List Tp) : List Int → Bool → List Sh → Option (Bool × List Sh)
 | [], t, h => some (t, h)
 | to :: r, t, h =>
  bif !(mergeB l (h.getD to.toNat zSh) a).2.2.1 then none
  else bif (mergeB l (h.getD to.toNat zSh) a).2.1 then flowE l a r true (h.set to.toNat (mergeB l (h.getD to.toNat zSh) a).1)
  else flowE l a r t h
def flowP (m : Im) (f : Int) (pc : Nat) (t : Bool) (h : List Sh) : Option (Bool × List Sh) :=
 bif !(h.getD pc zSh).1 then some (t, h)
 else bif (stepB m f (pc : Int) (h.getD pc zSh).2.1).2.2.1 != 0 then none
 else flowE m.1 (stepB m f (pc : Int) (h.getD pc zSh).2.1).1 (stepB m f (pc : Int) (h.getD pc zSh).2.1).2.1 t h
def flowR (m : Im) (f : Int) : Nat → Bool → List Sh → Option (Bool × List Sh)
 | 0, t, h => some (t, h)
 | pc + 1, t, h => (flowP m f pc t h).bind fun r => flowR m f pc r.1 r.2
def roundsM (m : Im) (f : Int) : Nat → List Sh → List Sh × Bool × Unit
 | 0, _ => ([], false, ())
 | n + 1, h => match flowR m f (codeN m f) false h with
  | none => ([], false, ())
  | some r => bif r.1 then roundsM m f n r.2 else (r.2, true, ())
def startH (m : Im) (f : Int) : List Sh := (List.replicate (codeN m f) zSh).set 0 (true, [], ())
def r8shapes (m : Im) (f : Int) : Option (List Sh × Bool × Unit) := bif saneP m && inM m f then some (roundsM m f 4000 (startH m f)) else none
def allM (m : Im) : List Int → List (List Sh) → List (List Sh) × Int × Unit
 | [], out => (out, -1, ())
 | f :: l, out => bif (roundsM m f 4000 (startH m f)).2.1 then allM m l (out ++ [(roundsM m f 4000 (startH m f)).1]) else ([], f, ())
def r8all (m : Im) : Option (List (List Sh) × Int × Unit) := bif saneP m then some (allM m (ints m.2.2.2.1.length) []) else none
end Go.Pli

namespace Go.Pli
open Go Go.PM
def r8frame (m : Im) (l : List (List Sh)) (f : Int) : Option (Int × Unit) := bif saneP m && okSS l then some (frameB m l f, ()) else none
def beyR (W : Nat → Nat → Bool) (out : List Int) (g : Int) : List Int → Int → Int
 | [], b => b
 | to :: r, b => beyR W out g r (bif !W to.toNat g.toNat && decide (out.getD to.toNat 0 > b) then out.getD to.toNat 0 else b)
def sumR (m : Im) (l : List (List Sh)) (W : Nat → Nat → Bool) (f : Int) (out : List Int) : List Int → Int → Int → Int × Int
 | [], a, b => (a, b)
 | g :: r, a, b => bif g != f && !(W f.toNat g.toNat && W g.toNat f.toNat) then sumR m l W f out r a b
  else sumR m l W f out r (IntKind.i64.wrap (a + IntKind.i64.wrap ((bif W g.toNat g.toNat then (mtOf m g).2.2.2.2.1 else 1) * frameB m l g))) (beyR W out g ((edgesB m).getD g.toNat []) b)
def stepR (m : Im) (l : List (List Sh)) (W : Nat → Nat → Bool) (out : List Int) (f : Int) : Int :=
 IntKind.i64.wrap ((sumR m l W f out (ints m.2.2.2.1.length) 0 0).1 + (sumR m l W f out (ints m.2.2.2.1.length) 0 0).2)
def roundR (m : Im) (l : List (List Sh)) (W : Nat → Nat → Bool) : List Int → List Int → List Int
 | [], out => out
 | f :: r, out => roundR m l W r (out.set f.toNat (stepR m l W out f))
def rndsR (m : Im) (l : List (List Sh)) (W : Nat → Nat → Bool) : Nat → List Int → List Int
 | 0, out => out
 | k + 1, out => rndsR m l W k (roundR m l W (ints m.2.2.2.1.length) out)
def wayM (m : Im) : Nat → Nat → Bool := wayF (edgesB m) m.2.2.2.1.length
def shallow (m : Im) : Bool := (ints m.2.2.2.1.length).any fun f => wayM m f.toNat f.toNat && decide ((mtOf m f).2.2.2.2.1 < 1)
def boundR (m : Im) (l : List (List Sh)) : List Int × Bool × Unit :=
 bif shallow m then ([], false, ()) else (rndsR m l (wayM m) m.2.2.2.1.length (List.replicate m.2.2.2.1.length 0), true, ())
def r8bound (m : Im) (l : List (List Sh)) : Option (List Int × Bool × Unit) := bif saneP m && (okSS l && (tgtOk m && smallL (edgesB m))) then some (boundR m l) else none
end Go.Pli

namespace Go.Pli
open Go Go.PM
end Go.Pli

namespace Go.Pli
open Go Go.PM
noncomputable section
def tdeepL1 (l : List (List Sh)) (f : Int) (s1 : Int × Int × Unit) (rec2 : (Int × Int × Unit) → Option (Int × Unit)) : Option (Int × Unit) :=
 bif decide (s1.2.1 < ((l.getD f.toNat ([] : List Sh)).length : Int)) then
  bif decide (0 ≤ s1.2.1) && decide (s1.2.1 < (l.getD f.toNat ([] : List Sh)).length) then
   rec2 (max s1.1 (((l.getD f.toNat ([] : List Sh)).getD s1.2.1.toNat zSh).2.1.length : Int), IntKind.i64.wrap (s1.2.1 + 1), ())
  else none
 else some (s1.1, ())
def tdeepN (fuel : Nat) (l : List (List Sh)) (f : Int) : Option (Int × Unit) :=
 bif decide (f < 0) then
  some ((0 : Int), ())
 else bif decide (f ≥ (l.length : Int)) then
  some ((0 : Int), ())
 else bif decide (0 ≤ f) && decide (f < l.length) then
  loopF (tdeepL1 l f) fuel ((0 : Int), ((0 : Int), ()))
 else none
def dframeN (m : Im) (l : List (List Sh)) (f : Int) : Option (Int × Unit) :=
 bif decide (f < 0) then
  some ((0 : Int), ())
 else bif decide (f ≥ (m.2.2.2.1.length : Int)) then
  some ((0 : Int), ())
 else bif decide (0 ≤ f) && decide (f < m.2.2.2.1.length) then
  (tdeep l f).bind fun r1 =>
  some (IntKind.i64.wrap ((IntKind.i64.wrap ((IntKind.i64.wrap ((3 : Int) + ((m.2.2.2.1.getD f.toNat zMt).1.length : Int))) + ((m.2.2.2.1.getD f.toNat zMt).2.1.length : Int))) + r1.1), ())
 else none
def indexILen (s : List Int) (_v : Int) : Prop := (s.length ≤ lenMax ∧ ∀ x1 : Int, x1 ∈ s → True) ∧ True ∧ True
def indexIL1 (s : List Int) (v : Int) (s1 : Int × Unit) (rec2 : (Int × Unit) → Option (Int × Unit)) : Option (Int × Unit) :=
 bif decide (s1.1 < (s.length : Int)) then
  bif decide (0 ≤ s1.1) && decide (s1.1 < s.length) then
   bif v == (s.getD s1.1.toNat 0) then
    some (s1.1, ())
   else rec2 (IntKind.i64.wrap (s1.1 + 1), ())
  else none
 else some ((-1 : Int), ())
def indexIN (fuel : Nat) (s : List Int) (v : Int) : Option (Int × Unit) :=
 loopF (indexIL1 s v) fuel ((0 : Int), ())
def containsILen (s : List Int) (_v : Int) : Prop := (s.length ≤ lenMax ∧ ∀ x1 : Int, x1 ∈ s → True) ∧ True ∧ True
def containsIN (s : List Int) (v : Int) : Option (Bool × Unit) :=
 some (decide ((indexI s v) ≥ 0), ())
def cyc1Len (_to : Int) (part : List Int) : Prop := True ∧ (part.length ≤ lenMax ∧ ∀ x1 : Int, x1 ∈ part → True) ∧ True
def cyc1N (to : Int) (part : List Int) : Option (Bool × Unit) :=
 some ((containsI part to), ())
def indexCycLen (l : List Int) (c : List Int × Unit) : Prop := (l.length ≤ lenMax ∧ ∀ x1 : Int, x1 ∈ l → True) ∧ ((c.1.length ≤ lenMax ∧ ∀ x1 : Int, x1 ∈ c.1 → True) ∧ True) ∧ True
def indexCycL1 (l : List Int) (c : List Int × Unit) (s1 : Int × Unit) (rec2 : (Int × Unit) → Option (Int × Unit)) : Option (Int × Unit) :=
 bif decide (s1.1 < (l.length : Int)) then
  bif decide (0 ≤ s1.1) && decide (s1.1 < l.length) then
   bif (cyc1 (l.getD s1.1.toNat 0) c.1) then
    some (s1.1, ())
   else rec2 (IntKind.i64.wrap (s1.1 + 1), ())
  else none
 else some ((-1 : Int), ())
def indexCycN (fuel : Nat) (l : List Int) (c : List Int × Unit) : Option (Int × Unit) :=
 loopF (indexCycL1 l c) fuel ((0 : Int), ())
def containsCycLen (l : List Int) (c : List Int × Unit) : Prop := (l.length ≤ lenMax ∧ ∀ x1 : Int, x1 ∈ l → True) ∧ ((c.1.length ≤ lenMax ∧ ∀ x1 : Int, x1 ∈ c.1 → True) ∧ True) ∧ True
def containsCycN (l : List Int) (c : List Int × Unit) : Option (Bool × Unit) :=
 some (decide ((indexCyc l c) ≥ 0), ())
def cyclicL1 (l : List (List Int)) (part : List Int) (s1 : Int × Unit) (rec2 : (Int × Unit) → Option (Bool × Unit)) : Option (Bool × Unit) :=
 bif decide (s1.1 < (part.length : Int)) then
  bif decide (0 ≤ s1.1) && decide (s1.1 < part.length) then
   bif decide (part.getD s1.1.toNat 0 < 0) then
    rec2 (IntKind.i64.wrap (s1.1 + 1), ())
   else bif decide (part.getD s1.1.toNat 0 ≥ (l.length : Int)) then
    rec2 (IntKind.i64.wrap (s1.1 + 1), ())
   else bif decide (0 ≤ part.getD s1.1.toNat 0) && decide (part.getD s1.1.toNat 0 < l.length) then
    bif (containsCyc (l.getD (part.getD s1.1.toNat 0).toNat ([] : List Int)) (part, ())) then
     some (true, ())
    else rec2 (IntKind.i64.wrap (s1.1 + 1), ())
   else none
  else none
 else some (false, ())
def cyclicN (fuel : Nat) (l : List (List Int)) (part : List Int) : Option (Bool × Unit) :=
 loopF (cyclicL1 l part) fuel ((0 : Int), ())
def dboundL1 (s1 : List (List Int) × Int × Unit) (r4 : List (List Int) × Unit) (s8 : Int × Int × Int × Unit) (s5 : Int × List Int × Unit) (rec9 : (Int × Int × Int × Unit) → Option (List Int × Int × Unit)) (s10 : Int × Unit) (r12 : Int × Unit) (s13 : Int × Int × Unit) (rec14 : (Int × Int × Unit) → Option (List Int × Int × Unit)) : Option (List Int × Int × Unit) :=
 bif decide (s13.2.1 < ((s1.1.getD ((r4.1.getD s5.1.toNat ([] : List Int)).getD s8.2.2.1.toNat 0).toNat ([] : List Int)).length : Int)) then
  bif decide (0 ≤ s13.2.1) && decide (s13.2.1 < (s1.1.getD ((r4.1.getD s5.1.toNat ([] : List Int)).getD s8.2.2.1.toNat 0).toNat ([] : List Int)).length) then
   bif !(containsI (r4.1.getD s5.1.toNat ([] : List Int)) ((s1.1.getD ((r4.1.getD s5.1.toNat ([] : List Int)).getD s8.2.2.1.toNat 0).toNat ([] : List Int)).getD s13.2.1.toNat 0)) then
    bif decide ((s1.1.getD ((r4.1.getD s5.1.toNat ([] : List Int)).getD s8.2.2.1.toNat 0).toNat ([] : List Int)).getD s13.2.1.toNat 0 < (s5.2.1.length : Int)) then
     bif decide (0 ≤ (s1.1.getD ((r4.1.getD s5.1.toNat ([] : List Int)).getD s8.2.2.1.toNat 0).toNat ([] : List Int)).getD s13.2.1.toNat 0) && decide ((s1.1.getD ((r4.1.getD s5.1.toNat ([] : List Int)).getD s8.2.2.1.toNat 0).toNat ([] : List Int)).getD s13.2.1.toNat 0 < s5.2.1.length) then
      rec14 (max s13.1 (s5.2.1.getD ((s1.1.getD ((r4.1.getD s5.1.toNat ([] : List Int)).getD s8.2.2.1.toNat 0).toNat ([] : List Int)).getD s13.2.1.toNat 0).toNat 0), IntKind.i64.wrap (s13.2.1 + 1), ())
     else none
    else rec14 (s13.1, IntKind.i64.wrap (s13.2.1 + 1), ())
   else rec14 (s13.1, IntKind.i64.wrap (s13.2.1 + 1), ())
  else none
 else rec9 (IntKind.i64.wrap (s8.1 + (IntKind.i64.wrap (s10.1 * r12.1))), s13.1, IntKind.i64.wrap (s8.2.2.1 + 1), ())
def dboundL2 (r4 : List (List Int) × Unit) (s8 : Int × Int × Int × Unit) (s5 : Int × List Int × Unit) (rec6 : (Int × List Int × Unit) → Option (List Int × Int × Unit)) (s15 : Int × List Int × Unit) (rec16 : (Int × List Int × Unit) → Option (List Int × Int × Unit)) : Option (List Int × Int × Unit) :=
 bif decide (s15.1 < ((r4.1.getD s5.1.toNat ([] : List Int)).length : Int)) then
  bif decide (0 ≤ s15.1) && decide (s15.1 < (r4.1.getD s5.1.toNat ([] : List Int)).length) then
   bif decide (0 ≤ (r4.1.getD s5.1.toNat ([] : List Int)).getD s15.1.toNat 0) && decide ((r4.1.getD s5.1.toNat ([] : List Int)).getD s15.1.toNat 0 < s15.2.1.length) then
    rec16 (IntKind.i64.wrap (s15.1 + 1), (s15.2.1.set ((r4.1.getD s5.1.toNat ([] : List Int)).getD s15.1.toNat 0).toNat (IntKind.i64.wrap (s8.1 + s8.2.1)), ()))
   else none
  else none
 else rec6 (IntKind.i64.wrap (s5.1 + 1), s15.2.1, ())
def dboundL3 (m : Im) (l : List (List Sh)) (fuel : Nat) (s1 : List (List Int) × Int × Unit) (r4 : List (List Int) × Unit) (r7 : Bool × Unit) (s5 : Int × List Int × Unit) (rec6 : (Int × List Int × Unit) → Option (List Int × Int × Unit)) (s8 : Int × Int × Int × Unit) (rec9 : (Int × Int × Int × Unit) → Option (List Int × Int × Unit)) : Option (List Int × Int × Unit) :=
 bif decide (s8.2.2.1 < ((r4.1.getD s5.1.toNat ([] : List Int)).length : Int)) then
  bif decide (0 ≤ s8.2.2.1) && decide (s8.2.2.1 < (r4.1.getD s5.1.toNat ([] : List Int)).length) then
   (bif r7.1 then
    bif decide (0 ≤ (r4.1.getD s5.1.toNat ([] : List Int)).getD s8.2.2.1.toNat 0) && decide ((r4.1.getD s5.1.toNat ([] : List Int)).getD s8.2.2.1.toNat 0 < m.2.2.2.1.length) then
     some (.inl ((m.2.2.2.1.getD ((r4.1.getD s5.1.toNat ([] : List Int)).getD s8.2.2.1.toNat 0).toNat zMt).2.2.2.2.1, ()))
    else none
   else some (.inl ((1 : Int), ())) : Option ((Int × Unit) ⊕ (List Int × Int × Unit))).bind fun q => match q with
   | .inr r11 => some r11
   | .inl s10 =>
    bif decide (s10.1 < 1) then
     some (([] : List Int), ((5 : Int), ()))
    else 
     (dframeN m l ((r4.1.getD s5.1.toNat ([] : List Int)).getD s8.2.2.1.toNat 0)).bind fun r12 =>
     bif decide (0 ≤ (r4.1.getD s5.1.toNat ([] : List Int)).getD s8.2.2.1.toNat 0) && decide ((r4.1.getD s5.1.toNat ([] : List Int)).getD s8.2.2.1.toNat 0 < s1.1.length) then
      loopF (dboundL1 s1 r4 s8 s5 rec9 s10 r12) fuel (s8.2.1, ((0 : Int), ()))
     else none
  else none
 else loopF (dboundL2 r4 s8 s5 rec6) fuel ((0 : Int), s5.2.1, ())
def dboundL4 (m : Im) (l : List (List Sh)) (fuel : Nat) (s1 : List (List Int) × Int × Unit) (r4 : List (List Int) × Unit) (s5 : Int × List Int × Unit) (rec6 : (Int × List Int × Unit) → Option (List Int × Int × Unit)) : Option (List Int × Int × Unit) :=
 bif decide (s5.1 < (r4.1.length : Int)) then
  bif decide (0 ≤ s5.1) && decide (s5.1 < r4.1.length) then
   (cyclic s1.1 (r4.1.getD s5.1.toNat ([] : List Int))).bind fun r7 =>
   loopF (dboundL3 m l fuel s1 r4 r7 s5 rec6) fuel ((0 : Int), ((0 : Int), ((0 : Int), ())))
  else none
 else some (s5.2.1, ((0 : Int), ()))
def dboundL5 (m : Im) (l : List (List Sh)) (fuel : Nat) (s1 : List (List Int) × Int × Unit) (rec2 : (List (List Int) × Int × Unit) → Option (List Int × Int × Unit)) : Option (List Int × Int × Unit) :=
 bif decide (s1.2.1 < (m.2.2.2.1.length : Int)) then
  (cof m s1.2.1).bind fun r3 =>
  bif decide (s1.1.length + [r3.1].length < rowMax) then
   rec2 (s1.1 ++ [r3.1], IntKind.i64.wrap (s1.2.1 + 1), ())
  else none
 else bif decide (0 ≤ (m.2.2.2.1.length : Int)) && decide ((m.2.2.2.1.length : Int) ≤ (m.2.2.2.1.length : Int)) && decide ((m.2.2.2.1.length : Int) < (rowMax : Int)) then
  (rings s1.1).bind fun r4 =>
  loopF (dboundL4 m l fuel s1 r4) fuel ((0 : Int), (List.replicate m.2.2.2.1.length (0 : Int), ()))
 else none
def dboundN (fuel : Nat) (m : Im) (l : List (List Sh)) : Option (List Int × Int × Unit) :=
 loopF (dboundL5 m l fuel) fuel (([] : List (List Int)), ((0 : Int), ()))
end
end Go.Pli

namespace Go.Pli
open Go Go.PM
noncomputable section
def r5localN (x : Mt) (n : Int) : Option (Tp × Unit) :=
 bif decide (([] : List Tp).length + x.1.length < rowMax) then
  bif decide ((([] : List Tp) ++ x.1).length + x.2.1.length < rowMax) then
   bif decide (n < 0) then
    some (((0 : Int), ((0 : Int), ())), ())
   else bif decide (n ≥ (((([] : List Tp) ++ x.1) ++ x.2.1).length : Int)) then
    some (((0 : Int), ((0 : Int), ())), ())
   else bif decide (0 ≤ n) && decide (n < ((([] : List Tp) ++ x.1) ++ x.2.1).length) then
    some (((([] : List Tp) ++ x.1) ++ x.2.1).getD n.toNat zTp, ())
   else none
  else none
 else none
def rjoinL1 (r3 : List Int × Unit) (r4 : List Int × Unit) (s5 : Int × Unit) (rec6 : (Int × Unit) → Option (Tp × Unit)) : Option (Tp × Unit) :=
 bif decide (s5.1 < (r3.1.length : Int)) then
  bif decide (0 ≤ s5.1) && decide (s5.1 < r3.1.length) then
   (rin r4.1 (r3.1.getD s5.1.toNat 0)).bind fun r7 =>
   bif r7.1 then
    bif decide (0 ≤ s5.1) && decide (s5.1 < r3.1.length) then
     some (((3 : Int), r3.1.getD s5.1.toNat 0, ()), ())
    else none
   else rec6 (IntKind.i64.wrap (s5.1 + 1), ())
  else none
 else some (((0 : Int), ((0 : Int), ())), ())
def rjoinN (fuel : Nat) (l : List Cl) (a : Tp) (b : Tp) : Option (Tp × Unit) :=
 (rsub l a b).bind fun r1 =>
 bif r1.1 then
  some (b, ())
 else 
  (rsub l b a).bind fun r2 =>
  bif r2.1 then
   some (a, ())
  else bif a.1 != 3 then
   some (((0 : Int), ((0 : Int), ())), ())
  else bif b.1 != 3 then
   some (((0 : Int), ((0 : Int), ())), ())
  else 
   (rabove l a.2.1).bind fun r3 =>
   (rabove l b.2.1).bind fun r4 =>
   loopF (rjoinL1 r3 r4) fuel ((1 : Int), ())
def r8givesN (x : Mt) : Option (List Tp × Unit) :=
 bif x.2.2.1.1 == 5 then
  some (([] : List Tp), ())
 else some ([x.2.2.1], ())
def r8ruleN (m : Im) (f : Int) (i : Ins) : Option (List Tp × List Tp × Unit) :=
 bif i.1 == 1 then
  some (([] : List Tp), ([((1 : Int), ((0 : Int), ()))], ()))
 else bif i.1 == 2 then
  some (([] : List Tp), ([((4 : Int), ((0 : Int), ()))], ()))
 else bif i.1 == 3 then
  bif decide (0 ≤ f) && decide (f < m.2.2.2.1.length) then
   (r5localN (m.2.2.2.1.getD f.toNat zMt) i.2.1).bind fun r1 =>
   some (([] : List Tp), [r1.1], ())
  else none
 else bif i.1 == 4 then
  bif decide (0 ≤ f) && decide (f < m.2.2.2.1.length) then
   (r5localN (m.2.2.2.1.getD f.toNat zMt) i.2.1).bind fun r2 =>
   some ([r2.1], (([] : List Tp), ()))
  else none
 else bif i.1 == 5 then
  some ([((0 : Int), ((0 : Int), ()))], (([] : List Tp), ()))
 else bif i.1 == 19 then
  some ([((1 : Int), ((0 : Int), ()))], (([] : List Tp), ()))
 else bif i.1 == 20 then
  some ([((4 : Int), ((0 : Int), ()))], ([((1 : Int), ((0 : Int), ()))], ()))
 else bif i.1 == 21 then
  some ([((4 : Int), ((0 : Int), ())), ((4 : Int), ((0 : Int), ()))], ([((1 : Int), ((0 : Int), ()))], ()))
 else bif i.1 == 22 then
  some (([] : List Tp), ([((3 : Int), i.2.1, ())], ()))
 else bif i.1 == 23 then
  some ([((1 : Int), ((0 : Int), ()))], ([((2 : Int), ((0 : Int), ()))], ()))
 else bif i.1 == 24 then
  some ([((2 : Int), ((0 : Int), ())), ((1 : Int), ((0 : Int), ()))], ([((1 : Int), ((0 : Int), ()))], ()))
 else bif i.1 == 25 then
  some ([((2 : Int), ((0 : Int), ())), ((1 : Int), ((0 : Int), ())), ((1 : Int), ((0 : Int), ()))], (([] : List Tp), ()))
 else bif i.1 == 26 then
  some ([((2 : Int), ((0 : Int), ()))], ([((1 : Int), ((0 : Int), ()))], ()))
 else bif i.1 == 27 then
  (r5fields m i.2.1).bind fun r3 =>
  bif decide (0 ≤ i.2.2.1) && decide (i.2.2.1 ≤ IntKind.i64.wrap (i.2.2.1 + 1)) && decide (IntKind.i64.wrap (i.2.2.1 + 1) ≤ (r3.1.length : Int)) then
   some ([((3 : Int), i.2.1, ())], (r3.1.take (IntKind.i64.wrap (i.2.2.1 + 1)).toNat).drop i.2.2.1.toNat, ())
  else none
 else bif i.1 == 28 then
  (r5fields m i.2.1).bind fun r4 =>
  bif decide (0 ≤ i.2.2.1) && decide (i.2.2.1 < r4.1.length) then
   some ([((3 : Int), i.2.1, ()), r4.1.getD i.2.2.1.toNat zTp], (([] : List Tp), ()))
  else none
 else bif i.1 == 29 then
  bif decide (0 ≤ i.2.1) && decide (i.2.1 < m.2.1.length) then
   some (([] : List Tp), [m.2.1.getD i.2.1.toNat zTp], ())
  else none
 else bif i.1 == 30 then
  bif decide (0 ≤ i.2.1) && decide (i.2.1 < m.2.1.length) then
   some ([m.2.1.getD i.2.1.toNat zTp], (([] : List Tp), ()))
  else none
 else bif i.1 == 34 then
  some ([((4 : Int), ((0 : Int), ()))], ([((3 : Int), i.2.1, ())], ()))
 else bif i.1 == 33 then
  bif decide (0 ≤ f) && decide (f < m.2.2.2.1.length) then
   (r8givesN (m.2.2.2.1.getD f.toNat zMt)).bind fun r5 =>
   some (r5.1, (([] : List Tp), ()))
  else none
 else bif i.1 == 31 then
  bif decide (0 ≤ i.2.1) && decide (i.2.1 < m.2.2.2.1.length) then
   bif decide (0 ≤ i.2.1) && decide (i.2.1 < m.2.2.2.1.length) then
    (r8givesN (m.2.2.2.1.getD i.2.1.toNat zMt)).bind fun r6 =>
    some ((m.2.2.2.1.getD i.2.1.toNat zMt).1, r6.1, ())
   else none
  else none
 else bif i.1 == 32 then
  let r7 := r5slot m i.2.1 i.2.2.1
  bif decide (0 ≤ r7.1) && decide (r7.1 < m.2.2.2.1.length) then
   bif decide ((1 : Int) ≤ ((m.2.2.2.1.getD r7.1.toNat zMt).1.length : Int)) && decide (((m.2.2.2.1.getD r7.1.toNat zMt).1.length : Int) ≤ ((m.2.2.2.1.getD r7.1.toNat zMt).1.length : Int)) then
    bif decide ([((3 : Int), i.2.1, ())].length + (((m.2.2.2.1.getD r7.1.toNat zMt).1.take ((m.2.2.2.1.getD r7.1.toNat zMt).1.length : Int).toNat).drop 1).length < rowMax) then
     bif decide (0 ≤ r7.1) && decide (r7.1 < m.2.2.2.1.length) then
      (r8givesN (m.2.2.2.1.getD r7.1.toNat zMt)).bind fun r8 =>
      some ([((3 : Int), i.2.1, ())] ++ (((m.2.2.2.1.getD r7.1.toNat zMt).1.take ((m.2.2.2.1.getD r7.1.toNat zMt).1.length : Int).toNat).drop 1), r8.1, ())
     else none
    else none
   else none
  else none
 else bif decide (i.1 ≥ 7) then
  bif decide (i.1 ≤ 17) then
   some ([((1 : Int), ((0 : Int), ())), ((1 : Int), ((0 : Int), ()))], ([((1 : Int), ((0 : Int), ()))], ()))
  else some (([] : List Tp), (([] : List Tp), ()))
 else some (([] : List Tp), (([] : List Tp), ()))
def r8stepL1 (m : Im) (f : Int) (pc : Int) (s : List Tp) (s5 : List Int × Unit) (s10 : List Tp × List Tp × Unit) (s16 : Int × Unit) (rec17 : (Int × Unit) → Option (List Tp × List Int × Int × Unit)) : Option (List Tp × List Int × Int × Unit) :=
 bif decide (s16.1 < (s10.1.length : Int)) then
  bif decide (0 ≤ IntKind.i64.wrap ((IntKind.i64.wrap ((s.length : Int) - (s10.1.length : Int))) + s16.1)) && decide (IntKind.i64.wrap ((IntKind.i64.wrap ((s.length : Int) - (s10.1.length : Int))) + s16.1) < s.length) then
   bif decide (0 ≤ s16.1) && decide (s16.1 < s10.1.length) then
    bif ((s10.1.getD s16.1.toNat zTp).1) == 0 then
     rec17 (IntKind.i64.wrap (s16.1 + 1), ())
    else bif ((s10.1.getD s16.1.toNat zTp).1) == 4 then
     bif !(risref (s.getD (IntKind.i64.wrap ((IntKind.i64.wrap ((s.length : Int) - (s10.1.length : Int))) + s16.1)).toNat zTp)) then
      some (([] : List Tp), (([] : List Int), ((4 : Int), ())))
     else bif (((m.2.2.2.1.getD f.toNat zMt).2.2.2.1.getD pc.toNat zIns).1) == 34 then
      bif ((s.getD (IntKind.i64.wrap ((IntKind.i64.wrap ((s.length : Int) - (s10.1.length : Int))) + s16.1)).toNat zTp).1) == 2 then
       some (([] : List Tp), (([] : List Int), ((4 : Int), ())))
      else rec17 (IntKind.i64.wrap (s16.1 + 1), ())
     else rec17 (IntKind.i64.wrap (s16.1 + 1), ())
    else 
     (rsub m.1 (s.getD (IntKind.i64.wrap ((IntKind.i64.wrap ((s.length : Int) - (s10.1.length : Int))) + s16.1)).toNat zTp) (s10.1.getD s16.1.toNat zTp)).bind fun r18 =>
     bif !r18.1 then
      some (([] : List Tp), (([] : List Int), ((4 : Int), ())))
     else rec17 (IntKind.i64.wrap (s16.1 + 1), ())
   else none
  else none
 else bif decide ((0 : Int) ≤ IntKind.i64.wrap ((s.length : Int) - (s10.1.length : Int))) && decide (IntKind.i64.wrap ((s.length : Int) - (s10.1.length : Int)) ≤ (s.length : Int)) then
  bif decide (([] : List Tp).length + ((s.take (IntKind.i64.wrap ((s.length : Int) - (s10.1.length : Int))).toNat).drop 0).length < rowMax) then
   bif decide ((([] : List Tp) ++ ((s.take (IntKind.i64.wrap ((s.length : Int) - (s10.1.length : Int))).toNat).drop 0)).length + s10.2.1.length < rowMax) then
    some ((([] : List Tp) ++ ((s.take (IntKind.i64.wrap ((s.length : Int) - (s10.1.length : Int))).toNat).drop 0)) ++ s10.2.1, s5.1, ((0 : Int), ()))
   else none
  else none
 else none
def r8stepN (fuel : Nat) (m : Im) (f : Int) (pc : Int) (s : List Tp) : Option (List Tp × List Int × Int × Unit) :=
 bif decide (f < 0) then
  some (([] : List Tp), (([] : List Int), ((1 : Int), ())))
 else bif decide (f ≥ (m.2.2.2.1.length : Int)) then
  some (([] : List Tp), (([] : List Int), ((1 : Int), ())))
 else bif decide (pc < 0) then
  some (([] : List Tp), (([] : List Int), ((1 : Int), ())))
 else bif decide (0 ≤ f) && decide (f < m.2.2.2.1.length) then
  bif decide (pc ≥ ((m.2.2.2.1.getD f.toNat zMt).2.2.2.1.length : Int)) then
   some (([] : List Tp), (([] : List Int), ((1 : Int), ())))
  else bif decide (0 ≤ f) && decide (f < m.2.2.2.1.length) then
   bif decide (0 ≤ pc) && decide (pc < (m.2.2.2.1.getD f.toNat zMt).2.2.2.1.length) then
    (bif (((m.2.2.2.1.getD f.toNat zMt).2.2.2.1.getD pc.toNat zIns).1) == 18 then
     some (.inl ([((m.2.2.2.1.getD f.toNat zMt).2.2.2.1.getD pc.toNat zIns).2.1], ()))
    else some (.inl ([IntKind.i64.wrap (pc + 1)], ())) : Option ((List Int × Unit) ⊕ (List Tp × List Int × Int × Unit))).bind fun q => match q with
    | .inr r2 => some r2
    | .inl s1 =>
     (bif (((m.2.2.2.1.getD f.toNat zMt).2.2.2.1.getD pc.toNat zIns).1) == 19 then
      bif decide (s1.1.length + [((m.2.2.2.1.getD f.toNat zMt).2.2.2.1.getD pc.toNat zIns).2.1].length < rowMax) then
       some (.inl (s1.1 ++ [((m.2.2.2.1.getD f.toNat zMt).2.2.2.1.getD pc.toNat zIns).2.1], ()))
      else none
     else some (.inl (s1.1, ())) : Option ((List Int × Unit) ⊕ (List Tp × List Int × Int × Unit))).bind fun q => match q with
     | .inr r4 => some r4
     | .inl s3 =>
      (bif (((m.2.2.2.1.getD f.toNat zMt).2.2.2.1.getD pc.toNat zIns).1) == 33 then
       some (.inl (([] : List Int), ()))
      else some (.inl (s3.1, ())) : Option ((List Int × Unit) ⊕ (List Tp × List Int × Int × Unit))).bind fun q => match q with
      | .inr r6 => some r6
      | .inl s5 =>
       (bif decide ((s5.1.length : Int) > 0) then
        bif decide ((0 : Int) < s5.1.length) then
         bif decide (0 ≤ f) && decide (f < m.2.2.2.1.length) then
          bif decide (s5.1.getD 0 0 ≥ ((m.2.2.2.1.getD f.toNat zMt).2.2.2.1.length : Int)) then
           some (.inr (([] : List Tp), (([] : List Int), ((4 : Int), ()))))
          else some (.inl ())
         else none
        else none
       else some (.inl ()) : Option (Unit ⊕ (List Tp × List Int × Int × Unit))).bind fun q => match q with
       | .inr r8 => some r8
       | .inl _ =>
        (r8ruleN m f ((m.2.2.2.1.getD f.toNat zMt).2.2.2.1.getD pc.toNat zIns)).bind fun r9 =>
        ((bif (((m.2.2.2.1.getD f.toNat zMt).2.2.2.1.getD pc.toNat zIns).1) == 6 then
         some (.inl (decide ((s.length : Int) > 0), ()))
        else some (.inl (false, ())) : Option ((Bool × Unit) ⊕ ((List Tp × List Tp × Unit) ⊕ (List Tp × List Int × Int × Unit)))).bind fun q => match q with
        | .inr r13 => some r13
        | .inl s12 =>
         bif s12.1 then
          bif decide (0 ≤ IntKind.i64.wrap ((s.length : Int) - 1)) && decide (IntKind.i64.wrap ((s.length : Int) - 1) < s.length) then
           some (.inl ([((0 : Int), ((0 : Int), ()))], ([s.getD (IntKind.i64.wrap ((s.length : Int) - 1)).toNat zTp, s.getD (IntKind.i64.wrap ((s.length : Int) - 1)).toNat zTp], ())))
          else none
         else some (.inl (r9.1, r9.2.1, ())) : Option ((List Tp × List Tp × Unit) ⊕ (List Tp × List Int × Int × Unit))).bind fun q => match q with
        | .inr r11 => some r11
        | .inl s10 =>
         (bif (((m.2.2.2.1.getD f.toNat zMt).2.2.2.1.getD pc.toNat zIns).1) == 6 then
          bif (s.length : Int) == 0 then
           some (.inr (([] : List Tp), (([] : List Int), ((4 : Int), ()))))
          else bif decide ((s10.1.length : Int) > (s.length : Int)) then
           some (.inr (([] : List Tp), (([] : List Int), ((4 : Int), ()))))
          else bif decide (IntKind.i64.wrap ((IntKind.i64.wrap ((s.length : Int) - (s10.1.length : Int))) + (s10.2.1.length : Int)) > 8) then
           some (.inr (([] : List Tp), (([] : List Int), ((4 : Int), ()))))
          else some (.inl ())
         else bif decide ((s10.1.length : Int) > (s.length : Int)) then
          some (.inr (([] : List Tp), (([] : List Int), ((4 : Int), ()))))
         else bif decide (IntKind.i64.wrap ((IntKind.i64.wrap ((s.length : Int) - (s10.1.length : Int))) + (s10.2.1.length : Int)) > 8) then
          some (.inr (([] : List Tp), (([] : List Int), ((4 : Int), ()))))
         else some (.inl ()) : Option (Unit ⊕ (List Tp × List Int × Int × Unit))).bind fun q => match q with
         | .inr r15 => some r15
         | .inl _ =>
          loopF (r8stepL1 m f pc s s5 s10) fuel ((0 : Int), ())
   else none
  else none
 else none
def r8shapesL1 (m : Im) (s6 : Bool × Int × List Sh × Unit) (rec7 : (Bool × Int × List Sh × Unit) → Option (List Sh × Bool × Unit)) (r5 : List Tp × List Int × Int × Unit) (s8 : List Tp × Int × Unit) (rec9 : (List Tp × Int × Unit) → Option (List Sh × Bool × Unit)) : Option (List Sh × Bool × Unit) :=
 bif decide (s8.2.1 < (r5.1.length : Int)) then
  bif decide (0 ≤ r5.2.1.getD s6.2.1.toNat 0) && decide (r5.2.1.getD s6.2.1.toNat 0 < s6.2.2.1.length) then
   bif decide (0 ≤ s8.2.1) && decide (s8.2.1 < (s6.2.2.1.getD (r5.2.1.getD s6.2.1.toNat 0).toNat zSh).2.1.length) then
    bif decide (0 ≤ s8.2.1) && decide (s8.2.1 < r5.1.length) then
     (rjoin m.1 ((s6.2.2.1.getD (r5.2.1.getD s6.2.1.toNat 0).toNat zSh).2.1.getD s8.2.1.toNat zTp) (r5.1.getD s8.2.1.toNat zTp)).bind fun r10 =>
     bif r10.1.1 == 0 then
      some (([] : List Sh), false, ())
     else bif decide (s8.1.length + [r10.1].length < rowMax) then
      rec9 (s8.1 ++ [r10.1], IntKind.i64.wrap (s8.2.1 + 1), ())
     else none
    else none
   else none
  else none
 else bif decide (0 ≤ r5.2.1.getD s6.2.1.toNat 0) && decide (r5.2.1.getD s6.2.1.toNat 0 < s6.2.2.1.length) then
  bif !(rtypes s8.1 (s6.2.2.1.getD (r5.2.1.getD s6.2.1.toNat 0).toNat zSh).2.1) then
   bif decide (0 ≤ r5.2.1.getD s6.2.1.toNat 0) && decide (r5.2.1.getD s6.2.1.toNat 0 < s6.2.2.1.length) then
    rec7 (true, IntKind.i64.wrap (s6.2.1 + 1), s6.2.2.1.set (r5.2.1.getD s6.2.1.toNat 0).toNat (true, s8.1, ()), ())
   else none
  else rec7 (s6.1, IntKind.i64.wrap (s6.2.1 + 1), s6.2.2.1, ())
 else none
def r8shapesL2 (m : Im) (fuel : Nat) (s3 : Bool × Int × List Sh × Unit) (rec4 : (Bool × Int × List Sh × Unit) → Option (List Sh × Bool × Unit)) (r5 : List Tp × List Int × Int × Unit) (s6 : Bool × Int × List Sh × Unit) (rec7 : (Bool × Int × List Sh × Unit) → Option (List Sh × Bool × Unit)) : Option (List Sh × Bool × Unit) :=
 bif decide (s6.2.1 < (r5.2.1.length : Int)) then
  bif decide (0 ≤ s6.2.1) && decide (s6.2.1 < r5.2.1.length) then
   bif decide (0 ≤ r5.2.1.getD s6.2.1.toNat 0) && decide (r5.2.1.getD s6.2.1.toNat 0 < s6.2.2.1.length) then
    bif !(s6.2.2.1.getD (r5.2.1.getD s6.2.1.toNat 0).toNat zSh).1 then
     bif decide (0 ≤ r5.2.1.getD s6.2.1.toNat 0) && decide (r5.2.1.getD s6.2.1.toNat 0 < s6.2.2.1.length) then
      rec7 (true, IntKind.i64.wrap (s6.2.1 + 1), s6.2.2.1.set (r5.2.1.getD s6.2.1.toNat 0).toNat (true, r5.1, ()), ())
     else none
    else bif decide (0 ≤ r5.2.1.getD s6.2.1.toNat 0) && decide (r5.2.1.getD s6.2.1.toNat 0 < s6.2.2.1.length) then
     bif ((s6.2.2.1.getD (r5.2.1.getD s6.2.1.toNat 0).toNat zSh).2.1.length : Int) != (r5.1.length : Int) then
      some (([] : List Sh), false, ())
     else loopF (r8shapesL1 m s6 rec7 r5) fuel (([] : List Tp), ((0 : Int), ()))
    else none
   else none
  else none
 else rec4 (s6.1, IntKind.i64.wrap (s3.2.1 - 1), s6.2.2.1, ())
def r8shapesL3 (m : Im) (f : Int) (fuel : Nat) (s1 : Int × List Sh × Unit) (rec2 : (Int × List Sh × Unit) → Option (List Sh × Bool × Unit)) (s3 : Bool × Int × List Sh × Unit) (rec4 : (Bool × Int × List Sh × Unit) → Option (List Sh × Bool × Unit)) : Option (List Sh × Bool × Unit) :=
 bif decide (s3.2.1 ≥ 0) then
  bif decide (0 ≤ s3.2.1) && decide (s3.2.1 < s3.2.2.1.length) then
   bif !(s3.2.2.1.getD s3.2.1.toNat zSh).1 then
    rec4 (s3.1, IntKind.i64.wrap (s3.2.1 - 1), s3.2.2.1, ())
   else bif decide (0 ≤ s3.2.1) && decide (s3.2.1 < s3.2.2.1.length) then
    (r8step m f s3.2.1 (s3.2.2.1.getD s3.2.1.toNat zSh).2.1).bind fun r5 =>
    bif r5.2.2.1 != 0 then
     some (([] : List Sh), false, ())
    else loopF (r8shapesL2 m fuel s3 rec4 r5) fuel (s3.1, ((0 : Int), s3.2.2.1, ()))
   else none
  else none
 else bif !s3.1 then
  some (s3.2.2.1, true, ())
 else rec2 (IntKind.i64.wrap (s1.1 + 1), s3.2.2.1, ())
def r8shapesL4 (m : Im) (f : Int) (fuel : Nat) (s1 : Int × List Sh × Unit) (rec2 : (Int × List Sh × Unit) → Option (List Sh × Bool × Unit)) : Option (List Sh × Bool × Unit) :=
 bif decide (s1.1 < 4000) then
  loopF (r8shapesL3 m f fuel s1 rec2) fuel (false, (IntKind.i64.wrap (((m.2.2.2.1.getD f.toNat zMt).2.2.2.1.length : Int) - 1), s1.2.1, ()))
 else some (([] : List Sh), false, ())
def r8shapesN (fuel : Nat) (m : Im) (f : Int) : Option (List Sh × Bool × Unit) :=
 bif decide (0 ≤ f) && decide (f < m.2.2.2.1.length) then
  bif decide (0 ≤ ((m.2.2.2.1.getD f.toNat zMt).2.2.2.1.length : Int)) && decide (((m.2.2.2.1.getD f.toNat zMt).2.2.2.1.length : Int) ≤ ((m.2.2.2.1.getD f.toNat zMt).2.2.2.1.length : Int)) && decide (((m.2.2.2.1.getD f.toNat zMt).2.2.2.1.length : Int) < (rowMax : Int)) then
   bif ((m.2.2.2.1.getD f.toNat zMt).2.2.2.1.length : Int) == 0 then
    some (([] : List Sh), false, ())
   else bif decide ((0 : Int) < (List.replicate ((m.2.2.2.1.getD f.toNat zMt).2.2.2.1.length : Int).toNat zSh).length) then
    loopF (r8shapesL4 m f fuel) fuel ((0 : Int), ((List.replicate ((m.2.2.2.1.getD f.toNat zMt).2.2.2.1.length : Int).toNat zSh).set 0 (true, ((List.replicate ((m.2.2.2.1.getD f.toNat zMt).2.2.2.1.length : Int).toNat zSh).getD 0 zSh).2), ()))
   else none
  else none
 else none
def r8allL1 (m : Im) (s1 : List (List Sh) × Int × Unit) (rec2 : (List (List Sh) × Int × Unit) → Option (List (List Sh) × Int × Unit)) : Option (List (List Sh) × Int × Unit) :=
 bif decide (s1.2.1 < (m.2.2.2.1.length : Int)) then
  (r8shapes m s1.2.1).bind fun r3 =>
  bif !r3.2.1 then
   some (([] : List (List Sh)), s1.2.1, ())
  else bif decide (s1.1.length + [r3.1].length < rowMax) then
   rec2 (s1.1 ++ [r3.1], IntKind.i64.wrap (s1.2.1 + 1), ())
  else none
 else some (s1.1, ((-1 : Int), ()))
def r8allN (fuel : Nat) (m : Im) : Option (List (List Sh) × Int × Unit) :=
 loopF (r8allL1 m) fuel (([] : List (List Sh)), ((0 : Int), ()))
def r8frameL1 (l : List (List Sh)) (f : Int) (s3 : Int × Int × Unit) (rec4 : (Int × Int × Unit) → Option ((Int × Unit) ⊕ (Int × Unit))) : Option ((Int × Unit) ⊕ (Int × Unit)) :=
 bif decide (f < (l.length : Int)) then
  bif decide (0 ≤ f) && decide (f < l.length) then
   bif decide (s3.2.1 < ((l.getD f.toNat ([] : List Sh)).length : Int)) then
    bif decide (0 ≤ f) && decide (f < l.length) then
     bif decide (0 ≤ s3.2.1) && decide (s3.2.1 < (l.getD f.toNat ([] : List Sh)).length) then
      bif decide ((((l.getD f.toNat ([] : List Sh)).getD s3.2.1.toNat zSh).2.1.length : Int) > s3.1) then
       bif decide (0 ≤ f) && decide (f < l.length) then
        bif decide (0 ≤ s3.2.1) && decide (s3.2.1 < (l.getD f.toNat ([] : List Sh)).length) then
         rec4 ((((l.getD f.toNat ([] : List Sh)).getD s3.2.1.toNat zSh).2.1.length : Int), IntKind.i64.wrap (s3.2.1 + 1), ())
        else none
       else none
      else rec4 (s3.1, IntKind.i64.wrap (s3.2.1 + 1), ())
     else none
    else none
   else some (.inl (s3.1, ()))
  else none
 else some (.inl (s3.1, ()))
def r8frameN (fuel : Nat) (m : Im) (l : List (List Sh)) (f : Int) : Option (Int × Unit) :=
 bif decide (f < 0) then
  some ((0 : Int), ())
 else bif decide (f ≥ (m.2.2.2.1.length : Int)) then
  some ((0 : Int), ())
 else 
  (loopF (r8frameL1 l f) fuel ((0 : Int), ((0 : Int), ())) : Option ((Int × Unit) ⊕ (Int × Unit))).bind fun q => match q with
  | .inr r2 => some r2
  | .inl s1 =>
   bif decide (0 ≤ f) && decide (f < m.2.2.2.1.length) then
    bif decide (0 ≤ f) && decide (f < m.2.2.2.1.length) then
     some (IntKind.i64.wrap ((IntKind.i64.wrap ((IntKind.i64.wrap ((3 : Int) + ((m.2.2.2.1.getD f.toNat zMt).1.length : Int))) + ((m.2.2.2.1.getD f.toNat zMt).2.1.length : Int))) + s1.1), ())
    else none
   else none
def r8boundL1 (r1 : List (List Int) × Unit) (r2 : List (List Bool) × Unit) (s7 : Int × List Int × Unit) (s9 : Int × Int × Int × Unit) (s17 : Int × Unit) (r19 : Int × Unit) (s20 : Int × Int × Unit) (rec21 : (Int × Int × Unit) → Option ((Int × Int × Unit) ⊕ (List Int × Bool × Unit))) : Option ((Int × Int × Unit) ⊕ (List Int × Bool × Unit)) :=
 bif decide (0 ≤ s9.2.2.1) && decide (s9.2.2.1 < r1.1.length) then
  bif decide (s20.2.1 < ((r1.1.getD s9.2.2.1.toNat ([] : List Int)).length : Int)) then
   bif decide (0 ≤ s9.2.2.1) && decide (s9.2.2.1 < r1.1.length) then
    bif decide (0 ≤ s20.2.1) && decide (s20.2.1 < (r1.1.getD s9.2.2.1.toNat ([] : List Int)).length) then
     bif decide (0 ≤ (r1.1.getD s9.2.2.1.toNat ([] : List Int)).getD s20.2.1.toNat 0) && decide ((r1.1.getD s9.2.2.1.toNat ([] : List Int)).getD s20.2.1.toNat 0 < r2.1.length) then
      bif decide (0 ≤ s9.2.2.1) && decide (s9.2.2.1 < (r2.1.getD ((r1.1.getD s9.2.2.1.toNat ([] : List Int)).getD s20.2.1.toNat 0).toNat ([] : List Bool)).length) then
       bif !((r2.1.getD ((r1.1.getD s9.2.2.1.toNat ([] : List Int)).getD s20.2.1.toNat 0).toNat ([] : List Bool)).getD s9.2.2.1.toNat false) then
        bif decide (0 ≤ (r1.1.getD s9.2.2.1.toNat ([] : List Int)).getD s20.2.1.toNat 0) && decide ((r1.1.getD s9.2.2.1.toNat ([] : List Int)).getD s20.2.1.toNat 0 < s7.2.1.length) then
         bif decide (s7.2.1.getD ((r1.1.getD s9.2.2.1.toNat ([] : List Int)).getD s20.2.1.toNat 0).toNat 0 > s20.1) then
          bif decide (0 ≤ (r1.1.getD s9.2.2.1.toNat ([] : List Int)).getD s20.2.1.toNat 0) && decide ((r1.1.getD s9.2.2.1.toNat ([] : List Int)).getD s20.2.1.toNat 0 < s7.2.1.length) then
           rec21 (s7.2.1.getD ((r1.1.getD s9.2.2.1.toNat ([] : List Int)).getD s20.2.1.toNat 0).toNat 0, IntKind.i64.wrap (s20.2.1 + 1), ())
          else none
         else rec21 (s20.1, IntKind.i64.wrap (s20.2.1 + 1), ())
        else none
       else rec21 (s20.1, IntKind.i64.wrap (s20.2.1 + 1), ())
      else none
     else none
    else none
   else none
  else some (.inl (IntKind.i64.wrap (s9.1 + (IntKind.i64.wrap (s17.1 * r19.1))), s20.1, ()))
 else none
def r8boundL2 (m : Im) (l : List (List Sh)) (fuel : Nat) (r1 : List (List Int) × Unit) (r2 : List (List Bool) × Unit) (s7 : Int × List Int × Unit) (rec8 : (Int × List Int × Unit) → Option (List Int × Bool × Unit)) (s9 : Int × Int × Int × Unit) (rec10 : (Int × Int × Int × Unit) → Option (List Int × Bool × Unit)) : Option (List Int × Bool × Unit) :=
 bif decide (s9.2.2.1 < (m.2.2.2.1.length : Int)) then
  (((bif s9.2.2.1 != s7.1 then
   bif decide (0 ≤ s7.1) && decide (s7.1 < r2.1.length) then
    bif decide (0 ≤ s9.2.2.1) && decide (s9.2.2.1 < (r2.1.getD s7.1.toNat ([] : List Bool)).length) then
     bif (r2.1.getD s7.1.toNat ([] : List Bool)).getD s9.2.2.1.toNat false then
      bif decide (0 ≤ s9.2.2.1) && decide (s9.2.2.1 < r2.1.length) then
       bif decide (0 ≤ s7.1) && decide (s7.1 < (r2.1.getD s9.2.2.1.toNat ([] : List Bool)).length) then
        some (.inl (!((r2.1.getD s9.2.2.1.toNat ([] : List Bool)).getD s7.1.toNat false), ()))
       else none
      else none
     else some (.inl (true, ()))
    else none
   else none
  else some (.inl (false, ())) : Option ((Bool × Unit) ⊕ ((Bool × Unit) ⊕ ((Int × Int × Unit) ⊕ (List Int × Bool × Unit))))).bind fun q => match q with
  | .inr r16 => some r16
  | .inl s15 =>
   bif s15.1 then
    some (.inr (.inl (s9.1, s9.2.1, ())))
   else some (.inl (false, ())) : Option ((Bool × Unit) ⊕ ((Int × Int × Unit) ⊕ (List Int × Bool × Unit)))).bind fun q => match q with
  | .inr r14 => some r14
  | .inl _ =>
   (bif decide (0 ≤ s9.2.2.1) && decide (s9.2.2.1 < r2.1.length) then
    bif decide (0 ≤ s9.2.2.1) && decide (s9.2.2.1 < (r2.1.getD s9.2.2.1.toNat ([] : List Bool)).length) then
     bif (r2.1.getD s9.2.2.1.toNat ([] : List Bool)).getD s9.2.2.1.toNat false then
      bif decide (0 ≤ s9.2.2.1) && decide (s9.2.2.1 < m.2.2.2.1.length) then
       some (.inl ((m.2.2.2.1.getD s9.2.2.1.toNat zMt).2.2.2.2.1, ()))
      else none
     else some (.inl ((1 : Int), ()))
    else none
   else none : Option ((Int × Unit) ⊕ ((Int × Int × Unit) ⊕ (List Int × Bool × Unit)))).bind fun q => match q with
   | .inr r18 => some r18
   | .inl s17 =>
    (r8frame m l s9.2.2.1).bind fun r19 =>
    loopF (r8boundL1 r1 r2 s7 s9 s17 r19) fuel (s9.2.1, ((0 : Int), ())) : Option ((Int × Int × Unit) ⊕ (List Int × Bool × Unit))).bind fun q => match q with
  | .inr r12 => some r12
  | .inl s11 =>
   rec10 (s11.1, s11.2.1, IntKind.i64.wrap (s9.2.2.1 + 1), ())
 else bif decide (0 ≤ s7.1) && decide (s7.1 < s7.2.1.length) then
  rec8 (IntKind.i64.wrap (s7.1 + 1), s7.2.1.set s7.1.toNat (IntKind.i64.wrap (s9.1 + s9.2.1)), ())
 else none
def r8boundL3 (m : Im) (l : List (List Sh)) (fuel : Nat) (r1 : List (List Int) × Unit) (r2 : List (List Bool) × Unit) (s5 : Int × List Int × Unit) (rec6 : (Int × List Int × Unit) → Option (List Int × Bool × Unit)) (s7 : Int × List Int × Unit) (rec8 : (Int × List Int × Unit) → Option (List Int × Bool × Unit)) : Option (List Int × Bool × Unit) :=
 bif decide (s7.1 < (m.2.2.2.1.length : Int)) then
  loopF (r8boundL2 m l fuel r1 r2 s7 rec8) fuel ((0 : Int), ((0 : Int), ((0 : Int), ())))
 else rec6 (IntKind.i64.wrap (s5.1 + 1), s7.2.1, ())
def r8boundL4 (m : Im) (l : List (List Sh)) (fuel : Nat) (r1 : List (List Int) × Unit) (r2 : List (List Bool) × Unit) (s5 : Int × List Int × Unit) (rec6 : (Int × List Int × Unit) → Option (List Int × Bool × Unit)) : Option (List Int × Bool × Unit) :=
 bif decide (s5.1 < (m.2.2.2.1.length : Int)) then
  loopF (r8boundL3 m l fuel r1 r2 s5 rec6) fuel ((0 : Int), s5.2.1, ())
 else some (s5.2.1, true, ())
def r8boundL5 (m : Im) (l : List (List Sh)) (fuel : Nat) (r1 : List (List Int) × Unit) (r2 : List (List Bool) × Unit) (s3 : Int × Unit) (rec4 : (Int × Unit) → Option (List Int × Bool × Unit)) : Option (List Int × Bool × Unit) :=
 bif decide (s3.1 < (m.2.2.2.1.length : Int)) then
  bif decide (0 ≤ s3.1) && decide (s3.1 < r2.1.length) then
   bif decide (0 ≤ s3.1) && decide (s3.1 < (r2.1.getD s3.1.toNat ([] : List Bool)).length) then
    bif (r2.1.getD s3.1.toNat ([] : List Bool)).getD s3.1.toNat false then
     bif decide (0 ≤ s3.1) && decide (s3.1 < m.2.2.2.1.length) then
      bif decide ((m.2.2.2.1.getD s3.1.toNat zMt).2.2.2.2.1 < 1) then
       some (([] : List Int), false, ())
      else rec4 (IntKind.i64.wrap (s3.1 + 1), ())
     else none
    else rec4 (IntKind.i64.wrap (s3.1 + 1), ())
   else none
  else none
 else bif decide (0 ≤ (m.2.2.2.1.length : Int)) && decide ((m.2.2.2.1.length : Int) ≤ (m.2.2.2.1.length : Int)) && decide ((m.2.2.2.1.length : Int) < (rowMax : Int)) then
  loopF (r8boundL4 m l fuel r1 r2) fuel ((0 : Int), (List.replicate m.2.2.2.1.length (0 : Int), ()))
 else none
def r8boundN (fuel : Nat) (m : Im) (l : List (List Sh)) : Option (List Int × Bool × Unit) :=
 (r8edges m).bind fun r1 =>
 (r8ways r1.1).bind fun r2 =>
 loopF (r8boundL5 m l fuel r1 r2) fuel ((0 : Int), ())
end
end Go.Pli

namespace Go.Pli
open Go Go.PM
def awake13 : Option (Bool × Unit) := some (true, ())
end Go.Pli

namespace Go.Pli
open Go Go.PM
noncomputable section
def sane13N (m : Im) : Option (Bool × Unit) :=
 bif decide ((m.2.2.2.1.length : Int) ≤ 12) then
  bif decide ((m.1.length : Int) ≤ 8) then
   bif decide ((m.2.2.1.length : Int) ≤ 16) then
    some ((r5sane m) == 0, ())
   else some (false, ())
  else some (false, ())
 else some (false, ())
def depthBoundsL1 (m : Im) (r2 : List (List Sh) × Int × Unit) (r4 : List Int × Int × Unit) (r5 : List Int × Bool × Unit) (s7 : Int × Unit) (rec8 : (Int × Unit) → Option (Bool × Unit)) : Option (Bool × Unit) :=
 bif decide (s7.1 ≤ (m.2.2.2.1.length : Int)) then
  (dframeN m r2.1 s7.1).bind fun r9 =>
  (r8frame m r2.1 s7.1).bind fun r10 =>
  bif r9.1 != r10.1 then
   some (false, ())
  else rec8 (IntKind.i64.wrap (s7.1 + 1), ())
 else 
  awake13.bind fun r11 =>
  bif r11.1 then
   bif r4.2.1 == 0 then
    some ((rints r4.1 r5.1), ())
   else some (false, ())
  else some (false, ())
def depthBoundsN (fuel : Nat) (m : Im) : Option (Bool × Unit) :=
 bif !(sane11 m) then
  awake13.bind fun r1 =>
  some (r1.1, ())
 else 
  (r8all m).bind fun r2 =>
  bif decide (r2.2.1 ≥ 0) then
   awake13.bind fun r3 =>
   some (r3.1, ())
  else 
   (dbound m r2.1).bind fun r4 =>
   (r8bound m r2.1).bind fun r5 =>
   bif !r5.2.1 then
    awake13.bind fun r6 =>
    bif r6.1 then
     bif r4.2.1 == 5 then
      some ((r4.1.length : Int) == 0, ())
     else some (false, ())
    else some (false, ())
   else loopF (depthBoundsL1 m r2 r4 r5) fuel ((-1 : Int), ())
def depthCallsL1 (m : Im) (r2 : List (List Sh) × Int × Unit) (r4 : List Int × Int × Unit) (r7 : List (List Bool) × Unit) (s8 : Int × Unit) (rec9 : (Int × Unit) → Option (Bool × Unit)) (s11 : Int × Unit) (rec12 : (Int × Unit) → Option (Bool × Unit)) : Option (Bool × Unit) :=
 bif decide (s11.1 < (r4.1.length : Int)) then
  (r8calls m s8.1 s11.1).bind fun r13 =>
  bif r13.1 then
   bif decide (0 ≤ s11.1) && decide (s11.1 < r7.1.length) then
    bif decide (0 ≤ s8.1) && decide (s8.1 < (r7.1.getD s11.1.toNat ([] : List Bool)).length) then
     bif !((r7.1.getD s11.1.toNat ([] : List Bool)).getD s8.1.toNat false) then
      bif decide (0 ≤ s8.1) && decide (s8.1 < r4.1.length) then
       (dframeN m r2.1 s8.1).bind fun r14 =>
       bif decide (0 ≤ s11.1) && decide (s11.1 < r4.1.length) then
        bif decide (r4.1.getD s8.1.toNat 0 < IntKind.i64.wrap (r14.1 + (r4.1.getD s11.1.toNat 0))) then
         some (false, ())
        else rec12 (IntKind.i64.wrap (s11.1 + 1), ())
       else none
      else none
     else rec12 (IntKind.i64.wrap (s11.1 + 1), ())
    else none
   else none
  else rec12 (IntKind.i64.wrap (s11.1 + 1), ())
 else rec9 (IntKind.i64.wrap (s8.1 + 1), ())
def depthCallsL2 (m : Im) (fuel : Nat) (r2 : List (List Sh) × Int × Unit) (r4 : List Int × Int × Unit) (r7 : List (List Bool) × Unit) (s8 : Int × Unit) (rec9 : (Int × Unit) → Option (Bool × Unit)) : Option (Bool × Unit) :=
 bif decide (s8.1 < (r4.1.length : Int)) then
  bif decide (0 ≤ s8.1) && decide (s8.1 < r4.1.length) then
   (dframeN m r2.1 s8.1).bind fun r10 =>
   bif decide (r4.1.getD s8.1.toNat 0 < r10.1) then
    some (false, ())
   else loopF (depthCallsL1 m r2 r4 r7 s8 rec9) fuel ((0 : Int), ())
  else none
 else 
  awake13.bind fun r15 =>
  some (r15.1, ())
def depthCallsN (fuel : Nat) (m : Im) : Option (Bool × Unit) :=
 bif !(sane11 m) then
  awake13.bind fun r1 =>
  some (r1.1, ())
 else 
  (r8all m).bind fun r2 =>
  bif decide (r2.2.1 ≥ 0) then
   awake13.bind fun r3 =>
   some (r3.1, ())
  else 
   (dbound m r2.1).bind fun r4 =>
   bif r4.2.1 != 0 then
    awake13.bind fun r5 =>
    some (r5.1, ())
   else bif (r4.1.length : Int) != (m.2.2.2.1.length : Int) then
    some (false, ())
   else 
    (r8edges m).bind fun r6 =>
    (r8ways r6.1).bind fun r7 =>
    loopF (depthCallsL2 m fuel r2 r4 r7) fuel ((0 : Int), ())
def depthRingL1 (r4 : List Int × Int × Unit) (r7 : List (List Bool) × Unit) (s8 : Int × Unit) (rec9 : (Int × Unit) → Option (Bool × Unit)) (s10 : Int × Unit) (rec11 : (Int × Unit) → Option (Bool × Unit)) : Option (Bool × Unit) :=
 bif decide (s10.1 < (r4.1.length : Int)) then
  bif decide (0 ≤ s8.1) && decide (s8.1 < r7.1.length) then
   bif decide (0 ≤ s10.1) && decide (s10.1 < (r7.1.getD s8.1.toNat ([] : List Bool)).length) then
    bif (r7.1.getD s8.1.toNat ([] : List Bool)).getD s10.1.toNat false then
     bif decide (0 ≤ s10.1) && decide (s10.1 < r7.1.length) then
      bif decide (0 ≤ s8.1) && decide (s8.1 < (r7.1.getD s10.1.toNat ([] : List Bool)).length) then
       bif (r7.1.getD s10.1.toNat ([] : List Bool)).getD s8.1.toNat false then
        bif decide (0 ≤ s8.1) && decide (s8.1 < r4.1.length) then
         bif decide (0 ≤ s10.1) && decide (s10.1 < r4.1.length) then
          bif (r4.1.getD s8.1.toNat 0) != (r4.1.getD s10.1.toNat 0) then
           some (false, ())
          else bif decide (0 ≤ s8.1) && decide (s8.1 < r7.1.length) then
           bif decide (0 ≤ s10.1) && decide (s10.1 < (r7.1.getD s8.1.toNat ([] : List Bool)).length) then
            bif (r7.1.getD s8.1.toNat ([] : List Bool)).getD s10.1.toNat false then
             bif decide (0 ≤ s8.1) && decide (s8.1 < r4.1.length) then
              bif decide (0 ≤ s10.1) && decide (s10.1 < r4.1.length) then
               bif decide (r4.1.getD s8.1.toNat 0 < r4.1.getD s10.1.toNat 0) then
                some (false, ())
               else rec11 (IntKind.i64.wrap (s10.1 + 1), ())
              else none
             else none
            else rec11 (IntKind.i64.wrap (s10.1 + 1), ())
           else none
          else none
         else none
        else none
       else bif decide (0 ≤ s8.1) && decide (s8.1 < r7.1.length) then
        bif decide (0 ≤ s10.1) && decide (s10.1 < (r7.1.getD s8.1.toNat ([] : List Bool)).length) then
         bif (r7.1.getD s8.1.toNat ([] : List Bool)).getD s10.1.toNat false then
          bif decide (0 ≤ s8.1) && decide (s8.1 < r4.1.length) then
           bif decide (0 ≤ s10.1) && decide (s10.1 < r4.1.length) then
            bif decide (r4.1.getD s8.1.toNat 0 < r4.1.getD s10.1.toNat 0) then
             some (false, ())
            else rec11 (IntKind.i64.wrap (s10.1 + 1), ())
           else none
          else none
         else rec11 (IntKind.i64.wrap (s10.1 + 1), ())
        else none
       else none
      else none
     else none
    else bif decide (0 ≤ s8.1) && decide (s8.1 < r7.1.length) then
     bif decide (0 ≤ s10.1) && decide (s10.1 < (r7.1.getD s8.1.toNat ([] : List Bool)).length) then
      bif (r7.1.getD s8.1.toNat ([] : List Bool)).getD s10.1.toNat false then
       bif decide (0 ≤ s8.1) && decide (s8.1 < r4.1.length) then
        bif decide (0 ≤ s10.1) && decide (s10.1 < r4.1.length) then
         bif decide (r4.1.getD s8.1.toNat 0 < r4.1.getD s10.1.toNat 0) then
          some (false, ())
         else rec11 (IntKind.i64.wrap (s10.1 + 1), ())
        else none
       else none
      else rec11 (IntKind.i64.wrap (s10.1 + 1), ())
     else none
    else none
   else none
  else none
 else rec9 (IntKind.i64.wrap (s8.1 + 1), ())
def depthRingL2 (fuel : Nat) (r4 : List Int × Int × Unit) (r7 : List (List Bool) × Unit) (s8 : Int × Unit) (rec9 : (Int × Unit) → Option (Bool × Unit)) : Option (Bool × Unit) :=
 bif decide (s8.1 < (r4.1.length : Int)) then
  loopF (depthRingL1 r4 r7 s8 rec9) fuel ((0 : Int), ())
 else 
  awake13.bind fun r12 =>
  some (r12.1, ())
def depthRingN (fuel : Nat) (m : Im) : Option (Bool × Unit) :=
 bif !(sane11 m) then
  awake13.bind fun r1 =>
  some (r1.1, ())
 else 
  (r8all m).bind fun r2 =>
  bif decide (r2.2.1 ≥ 0) then
   awake13.bind fun r3 =>
   some (r3.1, ())
  else 
   (dbound m r2.1).bind fun r4 =>
   bif r4.2.1 != 0 then
    awake13.bind fun r5 =>
    some (r5.1, ())
   else bif (r4.1.length : Int) != (m.2.2.2.1.length : Int) then
    some (false, ())
   else 
    (r8edges m).bind fun r6 =>
    (r8ways r6.1).bind fun r7 =>
    loopF (depthRingL2 fuel r4 r7) fuel ((0 : Int), ())
end
end Go.Pli
