import Derived.Test.YtibkgmpfncacpaaPliNat5
namespace Go.Pli
open Go Go.PM

def putOL1 (s1 : List Int × Int × Unit) (rec2 : (List Int × Int × Unit) → Option (List Int × Unit)) : Option (List Int × Unit) :=
  bif decide (s1.2.1 ≥ 128) then
    bif decide (s1.1.length + [IntKind.u8.wrap ((BitVec.ofInt 8 (IntKind.u8.wrap (s1.2.1.tmod 128)) ||| BitVec.ofInt 8 128).toNat)].length < rowMax) && true then
      rec2 (s1.1 ++ [IntKind.u8.wrap ((BitVec.ofInt 8 (IntKind.u8.wrap (s1.2.1.tmod 128)) ||| BitVec.ofInt 8 128).toNat)], IntKind.u64.wrap (s1.2.1.tdiv 128), ())
    else none
  else bif decide (s1.1.length + [IntKind.u8.wrap s1.2.1].length < rowMax) && true then
    some (s1.1 ++ [IntKind.u8.wrap s1.2.1], ())
  else none
def putON (fuel : Nat) (b : List Int) (n : Int) : Option (List Int × Unit) :=
  loopF putOL1 fuel (b, IntKind.u64.wrap (max n 0), ())

def longON (b : List Int) (n : Int) : Option (List Int × Unit) :=
  (put b (IntKind.i64.wrap (IntKind.u32.wrap ((BitVec.ofInt 32 (IntKind.u32.wrap ((IntKind.u32.wrap n) * 2)) ^^^ BitVec.ofInt 32 (IntKind.u32.wrap (n.fdiv 2147483648))).toNat)))).bind fun r1 =>
  some (r1.1, ())

def iputOL1 (i : Ins) (s2 : List Int × Int × Unit) (rec3 : (List Int × Int × Unit) → Option (List Int × Unit)) : Option (List Int × Unit) :=
  bif decide (s2.2.1 < ((([i.2.1, i.2.2.1].take (max (iargs i.1) 0).toNat).drop 0).length : Int)) then
    bif decide (0 ≤ s2.2.1) && decide (s2.2.1 < (([i.2.1, i.2.2.1].take (max (iargs i.1) 0).toNat).drop 0).length) then
      (put s2.1 ((([i.2.1, i.2.2.1].take (max (iargs i.1) 0).toNat).drop 0).getD s2.2.1.toNat 0)).bind fun r4 =>
      rec3 (r4.1, IntKind.i64.wrap (s2.2.1 + 1), ())
    else none
  else some (s2.1, ())
def iputON (fuel : Nat) (b : List Int) (i : Ins) : Option (List Int × Unit) :=
  (put b i.1).bind fun r1 =>
  bif decide ((0 : Int) ≤ max (iargs i.1) 0) && decide (max (iargs i.1) 0 ≤ ([i.2.1, i.2.2.1].length : Int)) then
    loopF (iputOL1 i) fuel (r1.1, ((0 : Int), ()))
  else none

def putTypeON (b : List Int) (t : Tp) : Option (List Int × Unit) :=
  (put b t.1).bind fun r1 =>
  bif t.1 == 3 then
    (put r1.1 t.2.1).bind fun r2 =>
    some (r2.1, ())
  else some (r1.1, ())

def putTypesOL1 (l : List Tp) (s2 : List Int × Int × Unit) (rec3 : (List Int × Int × Unit) → Option (List Int × Unit)) : Option (List Int × Unit) :=
  bif decide (s2.2.1 < (l.length : Int)) then
    bif decide (0 ≤ s2.2.1) && decide (s2.2.1 < l.length) then
      (putType s2.1 (l.getD s2.2.1.toNat zTp)).bind fun r4 =>
      rec3 (r4.1, IntKind.i64.wrap (s2.2.1 + 1), ())
    else none
  else some (s2.1, ())
def putTypesON (fuel : Nat) (b : List Int) (l : List Tp) : Option (List Int × Unit) :=
  (put b (l.length : Int)).bind fun r1 =>
  loopF (putTypesOL1 l) fuel (r1.1, ((0 : Int), ()))

def putNumsOL1 (l : List Int) (s2 : List Int × Int × Unit) (rec3 : (List Int × Int × Unit) → Option (List Int × Unit)) : Option (List Int × Unit) :=
  bif decide (s2.2.1 < (l.length : Int)) then
    bif decide (0 ≤ s2.2.1) && decide (s2.2.1 < l.length) then
      (put s2.1 (l.getD s2.2.1.toNat 0)).bind fun r4 =>
      rec3 (r4.1, IntKind.i64.wrap (s2.2.1 + 1), ())
    else none
  else some (s2.1, ())
def putNumsON (fuel : Nat) (b : List Int) (l : List Int) : Option (List Int × Unit) :=
  (put b (l.length : Int)).bind fun r1 =>
  loopF (putNumsOL1 l) fuel (r1.1, ((0 : Int), ()))

def putMethodOL1 (x : Mt) (s5 : List Int × Int × Unit) (rec6 : (List Int × Int × Unit) → Option (List Int × Unit)) : Option (List Int × Unit) :=
  bif decide (s5.2.1 < (x.2.2.2.1.length : Int)) then
    bif decide (0 ≤ s5.2.1) && decide (s5.2.1 < x.2.2.2.1.length) then
      (iput s5.1 (x.2.2.2.1.getD s5.2.1.toNat zIns)).bind fun r7 =>
      rec6 (r7.1, IntKind.i64.wrap (s5.2.1 + 1), ())
    else none
  else 
    (put s5.1 x.2.2.2.2.1).bind fun r8 =>
    (put r8.1 x.2.2.2.2.2.1).bind fun r9 =>
    (putNums r9.1 x.2.2.2.2.2.2.1).bind fun r10 =>
    some (r10.1, ())
def putMethodON (fuel : Nat) (b : List Int) (x : Mt) : Option (List Int × Unit) :=
  (putTypes b x.1).bind fun r1 =>
  (putTypes r1.1 x.2.1).bind fun r2 =>
  (putType r2.1 x.2.2.1).bind fun r3 =>
  (put r3.1 (x.2.2.2.1.length : Int)).bind fun r4 =>
  loopF (putMethodOL1 x) fuel (r4.1, ((0 : Int), ()))

def clipByON (s : List Int) : Option (List Int × Unit) :=
  bif decide ((s.length : Int) = (s.length : Int)) && decide ((s.length : Int) = (s.length : Int)) && true then
    some (s, ())
  else none

def iencodeOL1 (m : Im) (s13 : List Int × Int × Unit) (rec14 : (List Int × Int × Unit) → Option (List Int × Int × Unit)) : Option (List Int × Int × Unit) :=
  bif decide (s13.2.1 < (m.2.2.2.1.length : Int)) then
    bif decide (0 ≤ s13.2.1) && decide (s13.2.1 < m.2.2.2.1.length) then
      (putMethod s13.1 (m.2.2.2.1.getD s13.2.1.toNat zMt)).bind fun r15 =>
      rec14 (r15.1, IntKind.i64.wrap (s13.2.1 + 1), ())
    else none
  else 
    (putNums s13.1 m.2.2.2.2.1).bind fun r16 =>
    (put r16.1 m.2.2.2.2.2.1).bind fun r17 =>
    (put r17.1 m.2.2.2.2.2.2.1).bind fun r18 =>
    bif decide ((r18.1.length : Int) > 8192) then
      some (([] : List Int), ((12 : Int), ()))
    else some ((idL r18.1), ((0 : Int), ()))
def iencodeOL2 (m : Im) (fuel : Nat) (s9 : List Int × Int × Unit) (rec10 : (List Int × Int × Unit) → Option (List Int × Int × Unit)) : Option (List Int × Int × Unit) :=
  bif decide (s9.2.1 < (m.2.2.1.length : Int)) then
    bif decide (0 ≤ s9.2.1) && decide (s9.2.1 < m.2.2.1.length) then
      (longN s9.1 (m.2.2.1.getD s9.2.1.toNat 0)).bind fun r11 =>
      rec10 (r11.1, IntKind.i64.wrap (s9.2.1 + 1), ())
    else none
  else 
    (put s9.1 (m.2.2.2.1.length : Int)).bind fun r12 =>
    loopF (iencodeOL1 m) fuel (r12.1, ((0 : Int), ()))
def iencodeOL3 (m : Im) (fuel : Nat) (s2 : List Int × Int × Unit) (rec3 : (List Int × Int × Unit) → Option (List Int × Int × Unit)) : Option (List Int × Int × Unit) :=
  bif decide (s2.2.1 < (m.1.length : Int)) then
    bif decide (0 ≤ s2.2.1) && decide (s2.2.1 < m.1.length) then
      (put s2.1 (IntKind.i64.wrap (((m.1.getD s2.2.1.toNat zCl).1) + 1))).bind fun r4 =>
      (putTypes r4.1 (m.1.getD s2.2.1.toNat zCl).2.1).bind fun r5 =>
      (putNums r5.1 (m.1.getD s2.2.1.toNat zCl).2.2.1).bind fun r6 =>
      rec3 (r6.1, IntKind.i64.wrap (s2.2.1 + 1), ())
    else none
  else 
    (putTypes s2.1 m.2.1).bind fun r7 =>
    (put r7.1 (m.2.2.1.length : Int)).bind fun r8 =>
    loopF (iencodeOL2 m fuel) fuel (r8.1, ((0 : Int), ()))
def iencodeON (fuel : Nat) (m : Im) : Option (List Int × Int × Unit) :=
  bif !(ifits m) then
    some (([] : List Int), ((1 : Int), ()))
  else bif decide (0 < ([112, 108, 105, 109] : List Int).length) && true then
    (put ([112, 108, 105, 109] : List Int) (m.1.length : Int)).bind fun r1 =>
    loopF (iencodeOL3 m fuel) fuel (r1.1, ((0 : Int), ()))
  else none

def imageTurnedN (m : Im) (a : Int) (t : Int) : Option (Bool × Unit) :=
  bif !(small5 m) then
    awake5N.bind fun r1 =>
    some (r1.1, ())
  else bif t == 0 then
    awake5N.bind fun r2 =>
    some (r2.1, ())
  else 
    (iencode m).bind fun r3 =>
    bif r3.2.1 != 0 then
      awake5N.bind fun r4 =>
      bif r4.1 then
        some (r3.2.1 != 0, ())
      else some (false, ())
    else bif (r3.1.length : Int) == 0 then
      awake5N.bind fun r5 =>
      bif r5.1 then
        some (r3.2.1 != 0, ())
      else some (false, ())
    else bif !decide ((r3.1.length : Int) = 0) then
      bif decide (0 ≤ (IntKind.i64.wrap a).tmod (r3.1.length : Int)) && decide ((IntKind.i64.wrap a).tmod (r3.1.length : Int) < r3.1.length) then
        bif decide (0 ≤ (IntKind.i64.wrap a).tmod (r3.1.length : Int)) && decide ((IntKind.i64.wrap a).tmod (r3.1.length : Int) < r3.1.length) then
          (idecode (r3.1.set ((IntKind.i64.wrap a).tmod (r3.1.length : Int)).toNat (IntKind.u8.wrap ((BitVec.ofInt 8 (r3.1.getD ((IntKind.i64.wrap a).tmod (r3.1.length : Int)).toNat 0) ^^^ BitVec.ofInt 8 t).toNat)))).bind fun r6 =>
          awake5N.bind fun r7 =>
          bif r7.1 then
            bif r6.2.1 != 0 then
              some (true, ())
            else some (!(r5same r6.1 m), ())
          else some (false, ())
        else none
      else none
    else none

end Go.Pli
