import Derived.Test.YtifcchajbahdiaaPliSpec
namespace Go.Pli
open Go Go.PM

def putL1 (s1 : List Int × Int × Unit) (rec2 : (List Int × Int × Unit) → Option (List Int × Unit)) : Option (List Int × Unit) :=
  bif decide (s1.2.1 ≥ 128) then
    bif decide (s1.1.length + [IntKind.u8.wrap ((BitVec.ofInt 8 (IntKind.u8.wrap (s1.2.1.tmod 128)) ||| BitVec.ofInt 8 128).toNat)].length < rowMax) then
      rec2 (s1.1 ++ [IntKind.u8.wrap ((BitVec.ofInt 8 (IntKind.u8.wrap (s1.2.1.tmod 128)) ||| BitVec.ofInt 8 128).toNat)], IntKind.u64.wrap (s1.2.1.tdiv 128), ())
    else none
  else bif decide (s1.1.length + [IntKind.u8.wrap s1.2.1].length < rowMax) then
    some (s1.1 ++ [IntKind.u8.wrap s1.2.1], ())
  else none
def putN (fuel : Nat) (b : List Int) (n : Int) : Option (List Int × Unit) :=
  loopF putL1 fuel (b, IntKind.u64.wrap (max n 0), ())

def longN (b : List Int) (n : Int) : Option (List Int × Unit) :=
  (put b (IntKind.i64.wrap (IntKind.u32.wrap ((BitVec.ofInt 32 (IntKind.u32.wrap ((IntKind.u32.wrap n) * 2)) ^^^ BitVec.ofInt 32 (IntKind.u32.wrap (n.fdiv 2147483648))).toNat)))).bind fun r1 =>
  some (r1.1, ())

def newN (b : List Int) : List Int × Bool × Unit :=
  (b, false, ())

def nextL1 (r : List Int × Bool × Unit) (s1 : Int × Int × Unit) (rec2 : (Int × Int × Unit) → Option (Int × Bool × (List Int × Bool × Unit) × Unit)) : Option (Int × Bool × (List Int × Bool × Unit) × Unit) :=
  bif decide (s1.2.1 < (r.1.length : Int)) then
    bif decide (0 ≤ s1.2.1) && decide (s1.2.1 < r.1.length) then
      bif s1.2.1 == 5 then
        some ((0 : Int), false, r, ())
      else bif !decide (IntKind.i64.wrap ((7 : Int) * s1.2.1) < 0) then
        bif decide (r.1.getD s1.2.1.toNat 0 < 128) then
          bif decide (0 ≤ IntKind.i64.wrap (s1.2.1 + 1)) && decide (IntKind.i64.wrap (s1.2.1 + 1) ≤ (r.1.length : Int)) && decide ((r.1.length : Int) ≤ (r.1.length : Int)) then
            bif s1.2.1 == 0 then
              some (IntKind.u64.wrap ((BitVec.ofInt 64 s1.1 ||| BitVec.ofInt 64 (IntKind.u64.wrap ((IntKind.u64.wrap ((r.1.getD s1.2.1.toNat 0).tmod 128)) * 2 ^ (min (IntKind.i64.wrap ((7 : Int) * s1.2.1)).toNat 64)))).toNat), true, ((r.1.take r.1.length).drop (IntKind.i64.wrap (s1.2.1 + 1)).toNat, r.2), ())
            else some (IntKind.u64.wrap ((BitVec.ofInt 64 s1.1 ||| BitVec.ofInt 64 (IntKind.u64.wrap ((IntKind.u64.wrap ((r.1.getD s1.2.1.toNat 0).tmod 128)) * 2 ^ (min (IntKind.i64.wrap ((7 : Int) * s1.2.1)).toNat 64)))).toNat), decide (r.1.getD s1.2.1.toNat 0 > 0), ((r.1.take r.1.length).drop (IntKind.i64.wrap (s1.2.1 + 1)).toNat, r.2), ())
          else none
        else rec2 (IntKind.u64.wrap ((BitVec.ofInt 64 s1.1 ||| BitVec.ofInt 64 (IntKind.u64.wrap ((IntKind.u64.wrap ((r.1.getD s1.2.1.toNat 0).tmod 128)) * 2 ^ (min (IntKind.i64.wrap ((7 : Int) * s1.2.1)).toNat 64)))).toNat), IntKind.i64.wrap (s1.2.1 + 1), ())
      else none
    else none
  else some ((0 : Int), false, r, ())
def nextN (fuel : Nat) (r : List Int × Bool × Unit) : Option (Int × Bool × (List Int × Bool × Unit) × Unit) :=
  loopF (nextL1 r) fuel ((0 : Int), ((0 : Int), ()))

def getN (r : List Int × Bool × Unit) (n : Int) : Option (Int × (List Int × Bool × Unit) × Unit) :=
  bif r.2.1 then
    some ((0 : Int), r, ())
  else 
    (next r).bind fun r1 =>
    bif !r1.2.1 then
      some ((0 : Int), (r1.2.2.1.1, true, ()), ())
    else bif decide (n < 0) then
      some ((0 : Int), (r1.2.2.1.1, true, ()), ())
    else bif decide (r1.1 > IntKind.u64.wrap n) then
      some ((0 : Int), (r1.2.2.1.1, true, ()), ())
    else some (IntKind.i64.wrap r1.1, r1.2.2.1, ())

def glongN (r : List Int × Bool × Unit) : Option (Int × (List Int × Bool × Unit) × Unit) :=
  (getN r (4294967295 : Int)).bind fun r1 =>
  some (IntKind.i32.wrap ((BitVec.ofInt 32 (IntKind.i32.wrap ((IntKind.u32.wrap r1.1).fdiv 2)) ^^^ BitVec.ofInt 32 (IntKind.i32.wrap (0 - (IntKind.i32.wrap (IntKind.u32.wrap ((BitVec.ofInt 32 (IntKind.u32.wrap r1.1) &&& BitVec.ofInt 32 1).toNat)))))).toNat), r1.2.1, ())

def badN (r : List Int × Bool × Unit) : Bool × (List Int × Bool × Unit) × Unit :=
  (r.2.1, r, ())

def finN (r : List Int × Bool × Unit) : Option (Bool × (List Int × Bool × Unit) × Unit) :=
  bif !r.2.1 then
    some ((r.1.length : Int) == 0, r, ())
  else some (false, r, ())

def rbytesL1 (s3 : Int × List Int × Unit) (rec4 : (Int × List Int × Unit) → Option (List Int × Unit)) : Option (List Int × Unit) :=
  bif decide (s3.1 ≥ 128) then
    bif decide (s3.2.1.length + [IntKind.u8.wrap (IntKind.i64.wrap ((128 : Int) + (s3.1.tmod 128)))].length < rowMax) then
      rec4 (IntKind.i64.wrap (s3.1.tdiv 128), (s3.2.1 ++ [IntKind.u8.wrap (IntKind.i64.wrap ((128 : Int) + (s3.1.tmod 128)))], ()))
    else none
  else bif decide (s3.2.1.length + [IntKind.u8.wrap s3.1].length < rowMax) then
    some (s3.2.1 ++ [IntKind.u8.wrap s3.1], ())
  else none
def rbytesN (fuel : Nat) (n : Int) : Option (List Int × Unit) :=
  (bif decide (n < 0) then
    some (.inl ((0 : Int), ()))
  else some (.inl (n, ())) : Option ((Int × Unit) ⊕ (List Int × Unit))).bind fun q => match q with
  | .inr r2 => some r2
  | .inl s1 =>
    loopF rbytesL1 fuel (s1.1, (([] : List Int), ()))

def rsignedN (n : Int) : Option (List Int × Unit) :=
  bif decide (n < 0) then
    (rbytes (IntKind.i64.wrap ((IntKind.i64.wrap ((-2 : Int) * (IntKind.i64.wrap n))) - 1))).bind fun r1 =>
    some (r1.1, ())
  else 
    (rbytes (IntKind.i64.wrap ((2 : Int) * (IntKind.i64.wrap n)))).bind fun r2 =>
    some (r2.1, ())

def rnextL1 (b : List Int) (s1 : Int × Int × Int × Unit) (rec2 : (Int × Int × Int × Unit) → Option (Int × Int × Unit)) : Option (Int × Int × Unit) :=
  bif decide (s1.2.2.1 < (b.length : Int)) then
    bif decide (s1.2.2.1 < 5) then
      bif decide (0 ≤ s1.2.2.1) && decide (s1.2.2.1 < b.length) then
        bif decide (0 ≤ s1.2.2.1) && decide (s1.2.2.1 < b.length) then
          bif decide (b.getD s1.2.2.1.toNat 0 < 128) then
            bif decide (s1.2.2.1 > 0) then
              bif decide (0 ≤ s1.2.2.1) && decide (s1.2.2.1 < b.length) then
                bif (b.getD s1.2.2.1.toNat 0) == 0 then
                  some ((0 : Int), ((0 : Int), ()))
                else some (IntKind.i64.wrap (s1.1 + (IntKind.i64.wrap (s1.2.1 * (IntKind.i64.wrap ((b.getD s1.2.2.1.toNat 0).tmod 128))))), IntKind.i64.wrap (s1.2.2.1 + 1), ())
              else none
            else some (IntKind.i64.wrap (s1.1 + (IntKind.i64.wrap (s1.2.1 * (IntKind.i64.wrap ((b.getD s1.2.2.1.toNat 0).tmod 128))))), IntKind.i64.wrap (s1.2.2.1 + 1), ())
          else rec2 (IntKind.i64.wrap (s1.1 + (IntKind.i64.wrap (s1.2.1 * (IntKind.i64.wrap ((b.getD s1.2.2.1.toNat 0).tmod 128))))), IntKind.i64.wrap (s1.2.1 * 128), IntKind.i64.wrap (s1.2.2.1 + 1), ())
        else none
      else none
    else some ((0 : Int), ((0 : Int), ()))
  else some ((0 : Int), ((0 : Int), ()))
def rnextN (fuel : Nat) (b : List Int) : Option (Int × Int × Unit) :=
  loopF (rnextL1 b) fuel ((0 : Int), ((1 : Int), ((0 : Int), ())))

def rinL1 (l : List Int) (x : Int) (s1 : Int × Unit) (rec2 : (Int × Unit) → Option (Bool × Unit)) : Option (Bool × Unit) :=
  bif decide (s1.1 < (l.length : Int)) then
    bif decide (0 ≤ s1.1) && decide (s1.1 < l.length) then
      bif (l.getD s1.1.toNat 0) == x then
        some (true, ())
      else rec2 (IntKind.i64.wrap (s1.1 + 1), ())
    else none
  else some (false, ())
def rinN (fuel : Nat) (l : List Int) (x : Int) : Option (Bool × Unit) :=
  loopF (rinL1 l x) fuel ((0 : Int), ())

def rargsN (o : Int) : Option (Int × Unit) :=
  bif decide (o < 1) then
    some ((-1 : Int), ())
  else bif decide (o > 34) then
    some ((-1 : Int), ())
  else 
    (rin ([1, 3, 4, 18, 19, 22, 23, 29, 30, 31, 34] : List Int) o).bind fun r1 =>
    bif r1.1 then
      some ((1 : Int), ())
    else bif o == 27 then
      some ((2 : Int), ())
    else bif o == 28 then
      some ((2 : Int), ())
    else bif o == 32 then
      some ((2 : Int), ())
    else some ((0 : Int), ())

def awake2N : Option (Bool × Unit) :=
  (put ([] : List Int) (300 : Int)).bind fun r1 =>
  (longN r1.1 (-3 : Int)).bind fun r2 =>
  bif (r2.1.length : Int) == 3 then
    bif decide ((0 : Int) < r2.1.length) then
      bif (r2.1.getD 0 0) == 172 then
        bif decide ((1 : Int) < r2.1.length) then
          bif (r2.1.getD 1 0) == 2 then
            bif decide ((2 : Int) < r2.1.length) then
              bif (r2.1.getD 2 0) == 5 then
                (getN (newN r2.1) (300 : Int)).bind fun r3 =>
                bif r3.1 == 300 then
                  (glongN r3.2.1).bind fun r4 =>
                  bif r4.1 == (-3 : Int) then
                    (finN r4.2.1).bind fun r5 =>
                    bif r5.1 then
                      let r6 := badN r5.2.1
                      bif !r6.1 then
                        (rargsN (1 : Int)).bind fun r7 =>
                        some (r7.1 == 1, ())
                      else some (false, ())
                    else some (false, ())
                  else some (false, ())
                else some (false, ())
              else some (false, ())
            else none
          else some (false, ())
        else none
      else some (false, ())
    else none
  else some (false, ())

def bitsPutsN (b : List Int) (n : Int) (m : Int) : Option (Bool × Unit) :=
  bif decide ((b.length : Int) > 100) then
    awake2N.bind fun r1 =>
    some (r1.1, ())
  else bif decide (n > 1152921504606846976) then
    awake2N.bind fun r2 =>
    some (r2.1, ())
  else bif decide (([] : List Int).length + b.length < rowMax) then
    (put (([] : List Int) ++ b) n).bind fun r3 =>
    bif decide (([] : List Int).length + b.length < rowMax) then
      (longN (([] : List Int) ++ b) m).bind fun r4 =>
      awake2N.bind fun r5 =>
      bif r5.1 then
        (rbytes n).bind fun r6 =>
        bif decide ((strOfNums b).size + (strOfNums r6.1).size ≤ 140737488355328) then
          bif (strOfNums r3.1).toList == ((strOfNums b) ++ (strOfNums r6.1)).toList then
            (rsignedN m).bind fun r7 =>
            bif decide ((strOfNums b).size + (strOfNums r7.1).size ≤ 140737488355328) then
              some ((strOfNums r4.1).toList == ((strOfNums b) ++ (strOfNums r7.1)).toList, ())
            else none
          else some (false, ())
        else none
      else some (false, ())
    else none
  else none

end Go.Pli
