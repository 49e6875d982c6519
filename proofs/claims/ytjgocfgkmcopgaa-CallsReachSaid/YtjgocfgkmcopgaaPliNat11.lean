import Derived.Test.YtjgocfgkmcopgaaPliSpec11
import Derived.Test.YtjgocfgkmcopgaaPliNat5
namespace Go.Pli
open Go Go.PM

def cbelowL1 (m : Im) (c : Int) (s1 : List Int × Int × Unit) (rec2 : (List Int × Int × Unit) → Option (List Int × Unit)) : Option (List Int × Unit) :=
  bif decide (s1.2.1 < (m.1.length : Int)) then
    bif (kbelow m.1 s1.2.1 c) then
      bif decide (s1.1.length + [s1.2.1].length < rowMax) then
        rec2 (s1.1 ++ [s1.2.1], IntKind.i64.wrap (s1.2.1 + 1), ())
      else none
    else rec2 (s1.1, IntKind.i64.wrap (s1.2.1 + 1), ())
  else some ((idL s1.1), ())
def cbelowN (fuel : Nat) (m : Im) (c : Int) : Option (List Int × Unit) :=
  loopF (cbelowL1 m c) fuel (([] : List Int), ((0 : Int), ()))

def cslotN (m : Im) (c : Int) (n : Int) : Option (Int × Bool × Unit) :=
  bif decide (c < 0) then
    some ((0 : Int), false, ())
  else bif decide (c ≥ (m.1.length : Int)) then
    some ((0 : Int), false, ())
  else bif decide (n < 0) then
    some ((0 : Int), false, ())
  else bif decide (0 ≤ c) && decide (c < m.1.length) then
    bif decide (n ≥ ((m.1.getD c.toNat zCl).2.2.1.length : Int)) then
      some ((0 : Int), false, ())
    else bif decide (0 ≤ c) && decide (c < m.1.length) then
      bif decide (0 ≤ n) && decide (n < (m.1.getD c.toNat zCl).2.2.1.length) then
        some ((m.1.getD c.toNat zCl).2.2.1.getD n.toNat 0, true, ())
      else none
    else none
  else none

def ctargetsL1 (m : Im) (i : Ins) (r1 : List Int × Unit) (s2 : List Int × Int × Unit) (rec3 : (List Int × Int × Unit) → Option (List Int × Unit)) : Option (List Int × Unit) :=
  bif decide (s2.2.1 < (r1.1.length : Int)) then
    bif decide (0 ≤ s2.2.1) && decide (s2.2.1 < r1.1.length) then
      let r4 := cslot m (r1.1.getD s2.2.1.toNat 0) i.2.2.1
      bif r4.2.1 then
        bif decide (s2.1.length + [r4.1].length < rowMax) then
          rec3 (s2.1 ++ [r4.1], IntKind.i64.wrap (s2.2.1 + 1), ())
        else none
      else rec3 (s2.1, IntKind.i64.wrap (s2.2.1 + 1), ())
    else none
  else some (s2.1, ())
def ctargetsN (fuel : Nat) (m : Im) (i : Ins) : Option (List Int × Unit) :=
  bif i.1 == 31 then
    bif decide (([] : List Int).length + [i.2.1].length < rowMax) then
      some (([] : List Int) ++ [i.2.1], ())
    else none
  else bif i.1 == 32 then
    (cbelow m i.2.1).bind fun r1 =>
    loopF (ctargetsL1 m i r1) fuel (([] : List Int), ((0 : Int), ()))
  else some (([] : List Int), ())

def cofL1 (m : Im) (f : Int) (s1 : List Int × Int × Unit) (rec2 : (List Int × Int × Unit) → Option (List Int × Unit)) : Option (List Int × Unit) :=
  bif decide (s1.2.1 < ((m.2.2.2.1.getD f.toNat zMt).2.2.2.1.length : Int)) then
    bif decide (0 ≤ s1.2.1) && decide (s1.2.1 < (m.2.2.2.1.getD f.toNat zMt).2.2.2.1.length) then
      (ctargets m ((m.2.2.2.1.getD f.toNat zMt).2.2.2.1.getD s1.2.1.toNat zIns)).bind fun r3 =>
      bif decide (s1.1.length + r3.1.length < rowMax) && true then
        rec2 (s1.1 ++ r3.1, IntKind.i64.wrap (s1.2.1 + 1), ())
      else none
    else none
  else 
    let r4 := sortI s1.1
    some ((idL (compactI r4.1)), ())
def cofN (fuel : Nat) (m : Im) (f : Int) : Option (List Int × Unit) :=
  bif decide (f < 0) then
    some (([] : List Int), ())
  else bif decide (f ≥ (m.2.2.2.1.length : Int)) then
    some (([] : List Int), ())
  else bif decide (0 ≤ f) && decide (f < m.2.2.2.1.length) then
    loopF (cofL1 m f) fuel (([] : List Int), ((0 : Int), ()))
  else none

noncomputable def creachL1 (rec2 : (List Int × List Int × Unit) → Option (List Int × Unit)) (r3 : List Int × Unit) (s4 : List Int × Int × List Int × Unit) (rec5 : (List Int × Int × List Int × Unit) → Option (List Int × Unit)) : Option (List Int × Unit) :=
  bif decide (s4.2.1 < (r3.1.length : Int)) then
    bif decide (0 ≤ s4.2.1) && decide (s4.2.1 < r3.1.length) then
      bif keyOk (r3.1.getD s4.2.1.toNat 0) then
        bif !(memI (r3.1.getD s4.2.1.toNat 0) s4.2.2.1) then
          bif keyOk (r3.1.getD s4.2.1.toNat 0) then
            bif decide (s4.2.2.1.length < rowMax) then
              bif decide (s4.1.length + [r3.1.getD s4.2.1.toNat 0].length < rowMax) && true then
                rec5 (s4.1 ++ [r3.1.getD s4.2.1.toNat 0], IntKind.i64.wrap (s4.2.1 + 1), s4.2.2.1 ++ [r3.1.getD s4.2.1.toNat 0], ())
              else none
            else none
          else none
        else rec5 (s4.1, IntKind.i64.wrap (s4.2.1 + 1), s4.2.2.1, ())
      else none
    else none
  else rec2 (s4.1, s4.2.2.1, ())
noncomputable def creachL2 (s6 : List Int × List Int × Unit) (rec7 : (List Int × List Int × Unit) → Option (List Int × Unit)) : Option (List Int × Unit) :=
  nextOf s6.2.1
    (let r9 := sortI s6.1
    some ((idL r9.1), ()))
    (fun x8 =>
      bif decide (s6.1.length + [x8].length < rowMax) && true then
        rec7 (s6.1 ++ [x8], s6.2.1.erase x8, ())
      else none)
noncomputable def creachL3 (m : Im) (fuel : Nat) (s1 : List Int × List Int × Unit) (rec2 : (List Int × List Int × Unit) → Option (List Int × Unit)) : Option (List Int × Unit) :=
  bif decide ((s1.1.length : Int) > 0) then
    bif decide ((0 : Int) < s1.1.length) then
      bif decide ((1 : Int) ≤ (s1.1.length : Int)) && decide ((s1.1.length : Int) ≤ (s1.1.length : Int)) && true then
        (cof m (s1.1.getD 0 0)).bind fun r3 =>
        loopF (creachL1 rec2 r3) fuel ((s1.1.take s1.1.length).drop 1, ((0 : Int), s1.2.1, ()))
      else none
    else none
  else loopF creachL2 fuel (([] : List Int), dedupI s1.2.1, ())
noncomputable def creachN (fuel : Nat) (m : Im) (f : Int) : Option (List Int × Unit) :=
  bif decide (f < 0) then
    some (([] : List Int), ())
  else bif decide (f ≥ (m.2.2.2.1.length : Int)) then
    some (([] : List Int), ())
  else bif keyOk f then
    loopF (creachL3 m fuel) fuel (([f] : List Int), (([f] : List Int), ()))
  else none

def r5belowL1 (m : Im) (c : Int) (s1 : List Int × Int × Unit) (rec2 : (List Int × Int × Unit) → Option (List Int × Unit)) : Option (List Int × Unit) :=
  bif decide (s1.2.1 < (m.1.length : Int)) then
    (rabove m.1 s1.2.1).bind fun r3 =>
    (rin r3.1 c).bind fun r4 =>
    bif r4.1 then
      bif decide (s1.1.length + [s1.2.1].length < rowMax) then
        rec2 (s1.1 ++ [s1.2.1], IntKind.i64.wrap (s1.2.1 + 1), ())
      else none
    else rec2 (s1.1, IntKind.i64.wrap (s1.2.1 + 1), ())
  else some (s1.1, ())
def r5belowN (fuel : Nat) (m : Im) (c : Int) : Option (List Int × Unit) :=
  loopF (r5belowL1 m c) fuel (([] : List Int), ((0 : Int), ()))

def r5slotN (m : Im) (c : Int) (n : Int) : Option (Int × Bool × Unit) :=
  bif decide (c < 0) then
    some ((0 : Int), false, ())
  else bif decide (c ≥ (m.1.length : Int)) then
    some ((0 : Int), false, ())
  else bif decide (n < 0) then
    some ((0 : Int), false, ())
  else bif decide (0 ≤ c) && decide (c < m.1.length) then
    bif decide (n ≥ ((m.1.getD c.toNat zCl).2.2.1.length : Int)) then
      some ((0 : Int), false, ())
    else bif decide (0 ≤ c) && decide (c < m.1.length) then
      bif decide (0 ≤ n) && decide (n < (m.1.getD c.toNat zCl).2.2.1.length) then
        some ((m.1.getD c.toNat zCl).2.2.1.getD n.toNat 0, true, ())
      else none
    else none
  else none

def r8targetsL1 (m : Im) (i : Ins) (r3 : List Int × Unit) (s4 : List Int × Int × Unit) (rec5 : (List Int × Int × Unit) → Option (List Int × Unit)) : Option (List Int × Unit) :=
  bif decide (s4.2.1 < (r3.1.length : Int)) then
    bif decide (0 ≤ s4.2.1) && decide (s4.2.1 < r3.1.length) then
      let r6 := r5slot m (r3.1.getD s4.2.1.toNat 0) i.2.2.1
      bif r6.2.1 then
        bif decide (s4.1.length + [r6.1].length < rowMax) then
          rec5 (s4.1 ++ [r6.1], IntKind.i64.wrap (s4.2.1 + 1), ())
        else none
      else rec5 (s4.1, IntKind.i64.wrap (s4.2.1 + 1), ())
    else none
  else some (s4.1, ())
def r8targetsN (fuel : Nat) (m : Im) (i : Ins) : Option (List Int × Unit) :=
  (bif i.1 == 31 then
    bif decide (([] : List Int).length + [i.2.1].length < rowMax) then
      some (.inl (([] : List Int) ++ [i.2.1], ()))
    else none
  else some (.inl (([] : List Int), ())) : Option ((List Int × Unit) ⊕ (List Int × Unit))).bind fun q => match q with
  | .inr r2 => some r2
  | .inl s1 =>
    bif i.1 == 32 then
      (r5below m i.2.1).bind fun r3 =>
      loopF (r8targetsL1 m i r3) fuel (s1.1, ((0 : Int), ()))
    else some (s1.1, ())

def r8callsL1 (m : Im) (f : Int) (g : Int) (s1 : Int × Unit) (rec2 : (Int × Unit) → Option (Bool × Unit)) : Option (Bool × Unit) :=
  bif decide (0 ≤ f) && decide (f < m.2.2.2.1.length) then
    bif decide (s1.1 < ((m.2.2.2.1.getD f.toNat zMt).2.2.2.1.length : Int)) then
      bif decide (0 ≤ f) && decide (f < m.2.2.2.1.length) then
        bif decide (0 ≤ s1.1) && decide (s1.1 < (m.2.2.2.1.getD f.toNat zMt).2.2.2.1.length) then
          (r8targets m ((m.2.2.2.1.getD f.toNat zMt).2.2.2.1.getD s1.1.toNat zIns)).bind fun r3 =>
          (rin r3.1 g).bind fun r4 =>
          bif r4.1 then
            some (true, ())
          else rec2 (IntKind.i64.wrap (s1.1 + 1), ())
        else none
      else none
    else some (false, ())
  else none
def r8callsN (fuel : Nat) (m : Im) (f : Int) (g : Int) : Option (Bool × Unit) :=
  loopF (r8callsL1 m f g) fuel ((0 : Int), ())

def r8edgesL1 (m : Im) (s1 : List (List Int) × Int × Unit) (rec2 : (List (List Int) × Int × Unit) → Option (List (List Int) × Unit)) (s3 : List Int × Int × Unit) (rec4 : (List Int × Int × Unit) → Option (List (List Int) × Unit)) : Option (List (List Int) × Unit) :=
  bif decide (s3.2.1 < (m.2.2.2.1.length : Int)) then
    (r8calls m s1.2.1 s3.2.1).bind fun r5 =>
    bif r5.1 then
      bif decide (s3.1.length + [s3.2.1].length < rowMax) then
        rec4 (s3.1 ++ [s3.2.1], IntKind.i64.wrap (s3.2.1 + 1), ())
      else none
    else rec4 (s3.1, IntKind.i64.wrap (s3.2.1 + 1), ())
  else bif decide (s1.1.length + [s3.1].length < rowMax) && true then
    rec2 (s1.1 ++ [s3.1], IntKind.i64.wrap (s1.2.1 + 1), ())
  else none
def r8edgesL2 (m : Im) (fuel : Nat) (s1 : List (List Int) × Int × Unit) (rec2 : (List (List Int) × Int × Unit) → Option (List (List Int) × Unit)) : Option (List (List Int) × Unit) :=
  bif decide (s1.2.1 < (m.2.2.2.1.length : Int)) then
    loopF (r8edgesL1 m s1 rec2) fuel (([] : List Int), ((0 : Int), ()))
  else some (s1.1, ())
def r8edgesN (fuel : Nat) (m : Im) : Option (List (List Int) × Unit) :=
  loopF (r8edgesL2 m fuel) fuel (([] : List (List Int)), ((0 : Int), ()))

def r8waysL1 (l : List (List Int)) (s1 : Int × List (List Bool) × Unit) (rec2 : (Int × List (List Bool) × Unit) → Option (List (List Bool) × Unit)) (s3 : Int × List (List Bool) × Unit) (rec4 : (Int × List (List Bool) × Unit) → Option (List (List Bool) × Unit)) : Option (List (List Bool) × Unit) :=
  bif decide (0 ≤ s1.1) && decide (s1.1 < l.length) then
    bif decide (s3.1 < ((l.getD s1.1.toNat ([] : List Int)).length : Int)) then
      bif decide (0 ≤ s1.1) && decide (s1.1 < l.length) then
        bif decide (0 ≤ s3.1) && decide (s3.1 < (l.getD s1.1.toNat ([] : List Int)).length) then
          bif decide ((l.getD s1.1.toNat ([] : List Int)).getD s3.1.toNat 0 ≥ 0) then
            bif decide (0 ≤ s1.1) && decide (s1.1 < l.length) then
              bif decide (0 ≤ s3.1) && decide (s3.1 < (l.getD s1.1.toNat ([] : List Int)).length) then
                bif decide ((l.getD s1.1.toNat ([] : List Int)).getD s3.1.toNat 0 < (l.length : Int)) then
                  bif decide (0 ≤ s1.1) && decide (s1.1 < s3.2.1.length) then
                    bif decide (0 ≤ s1.1) && decide (s1.1 < l.length) then
                      bif decide (0 ≤ s3.1) && decide (s3.1 < (l.getD s1.1.toNat ([] : List Int)).length) then
                        bif decide (0 ≤ (l.getD s1.1.toNat ([] : List Int)).getD s3.1.toNat 0) && decide ((l.getD s1.1.toNat ([] : List Int)).getD s3.1.toNat 0 < (s3.2.1.getD s1.1.toNat ([] : List Bool)).length) then
                          rec4 (IntKind.i64.wrap (s3.1 + 1), (s3.2.1.set s1.1.toNat ((s3.2.1.getD s1.1.toNat ([] : List Bool)).set ((l.getD s1.1.toNat ([] : List Int)).getD s3.1.toNat 0).toNat true), ()))
                        else none
                      else none
                    else none
                  else none
                else rec4 (IntKind.i64.wrap (s3.1 + 1), s3.2.1, ())
              else none
            else none
          else rec4 (IntKind.i64.wrap (s3.1 + 1), s3.2.1, ())
        else none
      else none
    else rec2 (IntKind.i64.wrap (s1.1 + 1), s3.2.1, ())
  else none
def r8waysL2 (l : List (List Int)) (s5 : Int × List (List Bool) × Unit) (s7 : Int × List (List Bool) × Unit) (rec8 : (Int × List (List Bool) × Unit) → Option (List (List Bool) × Unit)) (s9 : Int × List (List Bool) × Unit) (rec10 : (Int × List (List Bool) × Unit) → Option (List (List Bool) × Unit)) : Option (List (List Bool) × Unit) :=
  bif decide (s9.1 < (l.length : Int)) then
    bif decide (0 ≤ s7.1) && decide (s7.1 < s9.2.1.length) then
      bif decide (0 ≤ s7.1) && decide (s7.1 < s9.2.1.length) then
        bif decide (0 ≤ s9.1) && decide (s9.1 < (s9.2.1.getD s7.1.toNat ([] : List Bool)).length) then
          bif (s9.2.1.getD s7.1.toNat ([] : List Bool)).getD s9.1.toNat false then
            bif decide (0 ≤ s9.1) && decide (s9.1 < (s9.2.1.getD s7.1.toNat ([] : List Bool)).length) then
              rec10 (IntKind.i64.wrap (s9.1 + 1), (s9.2.1.set s7.1.toNat ((s9.2.1.getD s7.1.toNat ([] : List Bool)).set s9.1.toNat true), ()))
            else none
          else bif decide (0 ≤ s7.1) && decide (s7.1 < s9.2.1.length) then
            bif decide (0 ≤ s5.1) && decide (s5.1 < (s9.2.1.getD s7.1.toNat ([] : List Bool)).length) then
              bif (s9.2.1.getD s7.1.toNat ([] : List Bool)).getD s5.1.toNat false then
                bif decide (0 ≤ s5.1) && decide (s5.1 < s9.2.1.length) then
                  bif decide (0 ≤ s9.1) && decide (s9.1 < (s9.2.1.getD s5.1.toNat ([] : List Bool)).length) then
                    bif decide (0 ≤ s9.1) && decide (s9.1 < (s9.2.1.getD s7.1.toNat ([] : List Bool)).length) then
                      rec10 (IntKind.i64.wrap (s9.1 + 1), (s9.2.1.set s7.1.toNat ((s9.2.1.getD s7.1.toNat ([] : List Bool)).set s9.1.toNat ((s9.2.1.getD s5.1.toNat ([] : List Bool)).getD s9.1.toNat false)), ()))
                    else none
                  else none
                else none
              else bif decide (0 ≤ s9.1) && decide (s9.1 < (s9.2.1.getD s7.1.toNat ([] : List Bool)).length) then
                rec10 (IntKind.i64.wrap (s9.1 + 1), (s9.2.1.set s7.1.toNat ((s9.2.1.getD s7.1.toNat ([] : List Bool)).set s9.1.toNat false), ()))
              else none
            else none
          else none
        else none
      else none
    else none
  else rec8 (IntKind.i64.wrap (s7.1 + 1), s9.2.1, ())
def r8waysL3 (l : List (List Int)) (fuel : Nat) (s5 : Int × List (List Bool) × Unit) (rec6 : (Int × List (List Bool) × Unit) → Option (List (List Bool) × Unit)) (s7 : Int × List (List Bool) × Unit) (rec8 : (Int × List (List Bool) × Unit) → Option (List (List Bool) × Unit)) : Option (List (List Bool) × Unit) :=
  bif decide (s7.1 < (l.length : Int)) then
    loopF (r8waysL2 l s5 s7 rec8) fuel ((0 : Int), s7.2.1, ())
  else rec6 (IntKind.i64.wrap (s5.1 + 1), s7.2.1, ())
def r8waysL4 (l : List (List Int)) (fuel : Nat) (s5 : Int × List (List Bool) × Unit) (rec6 : (Int × List (List Bool) × Unit) → Option (List (List Bool) × Unit)) : Option (List (List Bool) × Unit) :=
  bif decide (s5.1 < (l.length : Int)) then
    loopF (r8waysL3 l fuel s5 rec6) fuel ((0 : Int), s5.2.1, ())
  else some (s5.2.1, ())
def r8waysL5 (l : List (List Int)) (fuel : Nat) (s1 : Int × List (List Bool) × Unit) (rec2 : (Int × List (List Bool) × Unit) → Option (List (List Bool) × Unit)) : Option (List (List Bool) × Unit) :=
  bif decide (s1.1 < (l.length : Int)) then
    bif decide (0 ≤ (l.length : Int)) && decide ((l.length : Int) ≤ (l.length : Int)) && decide ((l.length : Int) < (rowMax : Int)) then
      bif decide (0 ≤ s1.1) && decide (s1.1 < s1.2.1.length) then
        loopF (r8waysL1 l s1 rec2) fuel ((0 : Int), s1.2.1.set s1.1.toNat (List.replicate l.length false), ())
      else none
    else none
  else loopF (r8waysL4 l fuel) fuel ((0 : Int), s1.2.1, ())
def r8waysN (fuel : Nat) (l : List (List Int)) : Option (List (List Bool) × Unit) :=
  bif decide (0 ≤ (l.length : Int)) && decide ((l.length : Int) ≤ (l.length : Int)) && decide ((l.length : Int) < (rowMax : Int)) then
    loopF (r8waysL5 l fuel) fuel ((0 : Int), (List.replicate l.length ([] : List Bool), ()))
  else none

def sane11N (m : Im) : Option (Bool × Unit) :=
  bif decide ((m.2.2.2.1.length : Int) ≤ 12) then
    bif decide ((m.1.length : Int) ≤ 8) then
      bif decide ((m.2.2.1.length : Int) ≤ 16) then
        some ((r5sane m) == 0, ())
      else some (false, ())
    else some (false, ())
  else some (false, ())

def awake11N : Option (Bool × Unit) :=
  (cof (([] : List Cl), (([] : List Tp), (([] : List Int), ([(([] : List Tp), (([] : List Tp), (((5 : Int), ((0 : Int), ())), ([((31 : Int), ((1 : Int), ((0 : Int), ()))), ((33 : Int), ((0 : Int), ((0 : Int), ())))], ((0 : Int), ((0 : Int), ([0, 0] : List Int), ())))))), (([] : List Tp), (([] : List Tp), (((5 : Int), ((0 : Int), ())), ([((33 : Int), ((0 : Int), ((0 : Int), ())))], ((0 : Int), ((0 : Int), (([0] : List Int), ())))))))], (([] : List Int), ((0 : Int), ((0 : Int), ()))))))) (0 : Int)).bind fun r1 =>
  bif (rints r1.1 ([1] : List Int)) then
    (creach (([] : List Cl), (([] : List Tp), (([] : List Int), ([(([] : List Tp), (([] : List Tp), (((5 : Int), ((0 : Int), ())), ([((31 : Int), ((1 : Int), ((0 : Int), ()))), ((33 : Int), ((0 : Int), ((0 : Int), ())))], ((0 : Int), ((0 : Int), ([0, 0] : List Int), ())))))), (([] : List Tp), (([] : List Tp), (((5 : Int), ((0 : Int), ())), ([((33 : Int), ((0 : Int), ((0 : Int), ())))], ((0 : Int), ((0 : Int), (([0] : List Int), ())))))))], (([] : List Int), ((0 : Int), ((0 : Int), ()))))))) (0 : Int)).bind fun r2 =>
    bif (rints r2.1 ([0, 1] : List Int)) then
      (cof (([] : List Cl), (([] : List Tp), (([] : List Int), ([(([] : List Tp), (([] : List Tp), (((5 : Int), ((0 : Int), ())), ([((31 : Int), ((1 : Int), ((0 : Int), ()))), ((33 : Int), ((0 : Int), ((0 : Int), ())))], ((0 : Int), ((0 : Int), ([0, 0] : List Int), ())))))), (([] : List Tp), (([] : List Tp), (((5 : Int), ((0 : Int), ())), ([((33 : Int), ((0 : Int), ((0 : Int), ())))], ((0 : Int), ((0 : Int), (([0] : List Int), ())))))))], (([] : List Int), ((0 : Int), ((0 : Int), ()))))))) (2 : Int)).bind fun r3 =>
      bif (r3.1.length : Int) == 0 then
        bif (r5sane (([] : List Cl), (([] : List Tp), (([] : List Int), ([(([] : List Tp), (([] : List Tp), (((5 : Int), ((0 : Int), ())), ([((31 : Int), ((1 : Int), ((0 : Int), ()))), ((33 : Int), ((0 : Int), ((0 : Int), ())))], ((0 : Int), ((0 : Int), ([0, 0] : List Int), ())))))), (([] : List Tp), (([] : List Tp), (((5 : Int), ((0 : Int), ())), ([((33 : Int), ((0 : Int), ((0 : Int), ())))], ((0 : Int), ((0 : Int), (([0] : List Int), ())))))))], (([] : List Int), ((0 : Int), ((0 : Int), ())))))))) == 0 then
          (r8calls (([] : List Cl), (([] : List Tp), (([] : List Int), ([(([] : List Tp), (([] : List Tp), (((5 : Int), ((0 : Int), ())), ([((31 : Int), ((1 : Int), ((0 : Int), ()))), ((33 : Int), ((0 : Int), ((0 : Int), ())))], ((0 : Int), ((0 : Int), ([0, 0] : List Int), ())))))), (([] : List Tp), (([] : List Tp), (((5 : Int), ((0 : Int), ())), ([((33 : Int), ((0 : Int), ((0 : Int), ())))], ((0 : Int), ((0 : Int), (([0] : List Int), ())))))))], (([] : List Int), ((0 : Int), ((0 : Int), ()))))))) (0 : Int) (1 : Int)).bind fun r4 =>
          some (r4.1, ())
        else some (false, ())
      else some (false, ())
    else some (false, ())
  else some (false, ())

def callsOfL1 (m : Im) (f : Int) (r2 : List (List Int) × Unit) (s3 : Int × Unit) (rec4 : (Int × Unit) → Option (Bool × Unit)) : Option (Bool × Unit) :=
  bif decide (s3.1 < (r2.1.length : Int)) then
    (cof m s3.1).bind fun r5 =>
    bif decide (0 ≤ s3.1) && decide (s3.1 < r2.1.length) then
      bif !(rints r5.1 (r2.1.getD s3.1.toNat ([] : List Int))) then
        some (false, ())
      else rec4 (IntKind.i64.wrap (s3.1 + 1), ())
    else none
  else 
    (bif decide (f < 0) then
      some (.inl (true, ()))
    else some (.inl (decide (f ≥ (r2.1.length : Int)), ())) : Option ((Bool × Unit) ⊕ (Bool × Unit))).bind fun q => match q with
    | .inr r7 => some r7
    | .inl s6 =>
      bif s6.1 then
        awake11N.bind fun r8 =>
        bif r8.1 then
          (cof m f).bind fun r9 =>
          bif (r9.1.length : Int) == 0 then
            (creach m f).bind fun r10 =>
            some ((r10.1.length : Int) == 0, ())
          else some (false, ())
        else some (false, ())
      else 
        awake11N.bind fun r11 =>
        some (r11.1, ())
def callsOfN (fuel : Nat) (m : Im) (f : Int) : Option (Bool × Unit) :=
  bif !(sane11 m) then
    awake11N.bind fun r1 =>
    some (r1.1, ())
  else 
    (r8edges m).bind fun r2 =>
    loopF (callsOfL1 m f r2) fuel ((0 : Int), ())

def callsClosedL1 (r4 : List Int × Unit) (s6 : Int × Unit) (rec7 : (Int × Unit) → Option (Bool × Unit)) (r8 : List Int × Unit) (s9 : Int × Unit) (rec10 : (Int × Unit) → Option (Bool × Unit)) : Option (Bool × Unit) :=
  bif decide (s9.1 < (r8.1.length : Int)) then
    bif decide (0 ≤ s9.1) && decide (s9.1 < r8.1.length) then
      (rin r4.1 (r8.1.getD s9.1.toNat 0)).bind fun r11 =>
      bif !r11.1 then
        some (false, ())
      else rec10 (IntKind.i64.wrap (s9.1 + 1), ())
    else none
  else rec7 (IntKind.i64.wrap (s6.1 + 1), ())
def callsClosedL2 (m : Im) (fuel : Nat) (r4 : List Int × Unit) (s2 : Int × Unit) (rec3 : (Int × Unit) → Option (Bool × Unit)) (s6 : Int × Unit) (rec7 : (Int × Unit) → Option (Bool × Unit)) : Option (Bool × Unit) :=
  bif decide (s6.1 < (r4.1.length : Int)) then
    bif decide (0 ≤ s6.1) && decide (s6.1 < r4.1.length) then
      (creach m (r4.1.getD s6.1.toNat 0)).bind fun r8 =>
      loopF (callsClosedL1 r4 s6 rec7 r8) fuel ((0 : Int), ())
    else none
  else rec3 (IntKind.i64.wrap (s2.1 + 1), ())
def callsClosedL3 (m : Im) (fuel : Nat) (s2 : Int × Unit) (rec3 : (Int × Unit) → Option (Bool × Unit)) : Option (Bool × Unit) :=
  bif decide (s2.1 < (m.2.2.2.1.length : Int)) then
    (creach m s2.1).bind fun r4 =>
    (rin r4.1 s2.1).bind fun r5 =>
    bif !r5.1 then
      some (false, ())
    else loopF (callsClosedL2 m fuel r4 s2 rec3) fuel ((0 : Int), ())
  else 
    awake11N.bind fun r12 =>
    some (r12.1, ())
def callsClosedN (fuel : Nat) (m : Im) : Option (Bool × Unit) :=
  bif !(sane11 m) then
    awake11N.bind fun r1 =>
    some (r1.1, ())
  else loopF (callsClosedL3 m fuel) fuel ((0 : Int), ())

def callsReachL1 (m : Im) (r3 : List (List Bool) × Unit) (s4 : Int × Unit) (rec5 : (Int × Unit) → Option (Bool × Unit)) (s6 : List Int × Int × Unit) (rec7 : (List Int × Int × Unit) → Option (Bool × Unit)) : Option (Bool × Unit) :=
  bif decide (s6.2.1 < (r3.1.length : Int)) then
    bif s6.2.1 == s4.1 then
      bif decide (s6.1.length + [s6.2.1].length < rowMax) then
        rec7 (s6.1 ++ [s6.2.1], IntKind.i64.wrap (s6.2.1 + 1), ())
      else none
    else bif decide (0 ≤ s4.1) && decide (s4.1 < r3.1.length) then
      bif decide (0 ≤ s6.2.1) && decide (s6.2.1 < (r3.1.getD s4.1.toNat ([] : List Bool)).length) then
        bif (r3.1.getD s4.1.toNat ([] : List Bool)).getD s6.2.1.toNat false then
          bif decide (s6.1.length + [s6.2.1].length < rowMax) then
            rec7 (s6.1 ++ [s6.2.1], IntKind.i64.wrap (s6.2.1 + 1), ())
          else none
        else rec7 (s6.1, IntKind.i64.wrap (s6.2.1 + 1), ())
      else none
    else none
  else 
    (creach m s4.1).bind fun r8 =>
    bif !(rints r8.1 s6.1) then
      some (false, ())
    else rec5 (IntKind.i64.wrap (s4.1 + 1), ())
def callsReachL2 (m : Im) (fuel : Nat) (r3 : List (List Bool) × Unit) (s4 : Int × Unit) (rec5 : (Int × Unit) → Option (Bool × Unit)) : Option (Bool × Unit) :=
  bif decide (s4.1 < (r3.1.length : Int)) then
    loopF (callsReachL1 m r3 s4 rec5) fuel (([] : List Int), ((0 : Int), ()))
  else 
    awake11N.bind fun r9 =>
    some (r9.1, ())
def callsReachN (fuel : Nat) (m : Im) : Option (Bool × Unit) :=
  bif !(sane11 m) then
    awake11N.bind fun r1 =>
    some (r1.1, ())
  else 
    (r8edges m).bind fun r2 =>
    (r8ways r2.1).bind fun r3 =>
    loopF (callsReachL2 m fuel r3) fuel ((0 : Int), ())

end Go.Pli
