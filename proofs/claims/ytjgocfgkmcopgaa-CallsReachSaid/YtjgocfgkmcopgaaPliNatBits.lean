import Derived.Test.YtjgocfgkmcopgaaPliSpec
namespace Go.Pli
open Go Go.PM

def putL1 (s1 : List Int × Int × Unit) (rec2 : (List Int × Int × Unit) → Option (List Int × Unit)) : Option (List Int × Unit) :=
  bif decide (s1.2.1 ≥ 128) then
    bif decide (s1.1.length + [IntKind.u8.wrap ((BitVec.ofInt 8 (IntKind.u8.wrap (s1.2.1.tmod 128)) ||| BitVec.ofInt 8 128).toNat)].length < rowMax) then
      rec2 (s1.1 ++ [IntKind.u8.wrap ((BitVec.ofInt 8 (IntKind.u8.wrap (s1.2.1.tmod 128)) ||| BitVec.ofInt 8 128).toNat)], IntKind.u64.wrap (s1.2.1.tdiv 128), ())
    else none
  else bif decide (s1.1.length + [IntKind.u8.wrap s1.2.1].length < rowMax) then
    some (s1.1 ++ [IntKind.u8.wrap s1.2.1], ())
  else none
def putN (fuel : Nat) (b : List Int) (n : Int) : Option (List Int × Unit) :=
  loopF putL1 fuel (b, IntKind.u64.wrap (max n 0), ())

def longN (b : List Int) (n : Int) : Option (List Int × Unit) :=
  (put b (IntKind.i64.wrap (IntKind.u32.wrap ((BitVec.ofInt 32 (IntKind.u32.wrap ((IntKind.u32.wrap n) * 2)) ^^^ BitVec.ofInt 32 (IntKind.u32.wrap (n.fdiv 2147483648))).toNat)))).bind fun r1 =>
  some (r1.1, ())

def newN (b : List Int) : List Int × Bool × Unit :=
  (b, false, ())

def nextL1 (r : List Int × Bool × Unit) (s1 : Int × Int × Unit) (rec2 : (Int × Int × Unit) → Option (Int × Bool × (List Int × Bool × Unit) × Unit)) : Option (Int × Bool × (List Int × Bool × Unit) × Unit) :=
  bif decide (s1.2.1 < (r.1.length : Int)) then
    bif decide (0 ≤ s1.2.1) && decide (s1.2.1 < r.1.length) then
      bif s1.2.1 == 5 then
        some ((0 : Int), false, r, ())
      else bif !decide (IntKind.i64.wrap ((7 : Int) * s1.2.1) < 0) then
        bif decide (r.1.getD s1.2.1.toNat 0 < 128) then
          bif decide (0 ≤ IntKind.i64.wrap (s1.2.1 + 1)) && decide (IntKind.i64.wrap (s1.2.1 + 1) ≤ (r.1.length : Int)) && decide ((r.1.length : Int) ≤ (r.1.length : Int)) then
            bif s1.2.1 == 0 then
              some (IntKind.u64.wrap ((BitVec.ofInt 64 s1.1 ||| BitVec.ofInt 64 (IntKind.u64.wrap ((IntKind.u64.wrap ((r.1.getD s1.2.1.toNat 0).tmod 128)) * 2 ^ (min (IntKind.i64.wrap ((7 : Int) * s1.2.1)).toNat 64)))).toNat), true, ((r.1.take r.1.length).drop (IntKind.i64.wrap (s1.2.1 + 1)).toNat, r.2), ())
            else some (IntKind.u64.wrap ((BitVec.ofInt 64 s1.1 ||| BitVec.ofInt 64 (IntKind.u64.wrap ((IntKind.u64.wrap ((r.1.getD s1.2.1.toNat 0).tmod 128)) * 2 ^ (min (IntKind.i64.wrap ((7 : Int) * s1.2.1)).toNat 64)))).toNat), decide (r.1.getD s1.2.1.toNat 0 > 0), ((r.1.take r.1.length).drop (IntKind.i64.wrap (s1.2.1 + 1)).toNat, r.2), ())
          else none
        else rec2 (IntKind.u64.wrap ((BitVec.ofInt 64 s1.1 ||| BitVec.ofInt 64 (IntKind.u64.wrap ((IntKind.u64.wrap ((r.1.getD s1.2.1.toNat 0).tmod 128)) * 2 ^ (min (IntKind.i64.wrap ((7 : Int) * s1.2.1)).toNat 64)))).toNat), IntKind.i64.wrap (s1.2.1 + 1), ())
      else none
    else none
  else some ((0 : Int), false, r, ())
def nextN (fuel : Nat) (r : List Int × Bool × Unit) : Option (Int × Bool × (List Int × Bool × Unit) × Unit) :=
  loopF (nextL1 r) fuel ((0 : Int), ((0 : Int), ()))

def getN (r : List Int × Bool × Unit) (n : Int) : Option (Int × (List Int × Bool × Unit) × Unit) :=
  bif r.2.1 then
    some ((0 : Int), r, ())
  else 
    (next r).bind fun r1 =>
    bif !r1.2.1 then
      some ((0 : Int), (r1.2.2.1.1, true, ()), ())
    else bif decide (n < 0) then
      some ((0 : Int), (r1.2.2.1.1, true, ()), ())
    else bif decide (r1.1 > IntKind.u64.wrap n) then
      some ((0 : Int), (r1.2.2.1.1, true, ()), ())
    else some (IntKind.i64.wrap r1.1, r1.2.2.1, ())

def glongN (r : List Int × Bool × Unit) : Option (Int × (List Int × Bool × Unit) × Unit) :=
  (getN r (4294967295 : Int)).bind fun r1 =>
  some (IntKind.i32.wrap ((BitVec.ofInt 32 (IntKind.i32.wrap ((IntKind.u32.wrap r1.1).fdiv 2)) ^^^ BitVec.ofInt 32 (IntKind.i32.wrap (0 - (IntKind.i32.wrap (IntKind.u32.wrap ((BitVec.ofInt 32 (IntKind.u32.wrap r1.1) &&& BitVec.ofInt 32 1).toNat)))))).toNat), r1.2.1, ())

def badN (r : List Int × Bool × Unit) : Bool × (List Int × Bool × Unit) × Unit :=
  (r.2.1, r, ())

def finN (r : List Int × Bool × Unit) : Option (Bool × (List Int × Bool × Unit) × Unit) :=
  bif !r.2.1 then
    some ((r.1.length : Int) == 0, r, ())
  else some (false, r, ())

def rbytesL1 (s3 : Int × List Int × Unit) (rec4 : (Int × List Int × Unit) → Option (List Int × Unit)) : Option (List Int × Unit) :=
  bif decide (s3.1 ≥ 128) then
    bif decide (s3.2.1.length + [IntKind.u8.wrap (IntKind.i64.wrap ((128 : Int) + (s3.1.tmod 128)))].length < rowMax) then
      rec4 (IntKind.i64.wrap (s3.1.tdiv 128), (s3.2.1 ++ [IntKind.u8.wrap (IntKind.i64.wrap ((128 : Int) + (s3.1.tmod 128)))], ()))
    else none
  else bif decide (s3.2.1.length + [IntKind.u8.wrap s3.1].length < rowMax) then
    some (s3.2.1 ++ [IntKind.u8.wrap s3.1], ())
  else none
def rbytesN (fuel : Nat) (n : Int) : Option (List Int × Unit) :=
  (bif decide (n < 0) then
    some (.inl ((0 : Int), ()))
  else some (.inl (n, ())) : Option ((Int × Unit) ⊕ (List Int × Unit))).bind fun q => match q with
  | .inr r2 => some r2
  | .inl s1 =>
    loopF rbytesL1 fuel (s1.1, (([] : List Int), ()))

def rsignedN (n : Int) : Option (List Int × Unit) :=
  bif decide (n < 0) then
    (rbytes (IntKind.i64.wrap ((IntKind.i64.wrap ((-2 : Int) * (IntKind.i64.wrap n))) - 1))).bind fun r1 =>
    some (r1.1, ())
  else 
    (rbytes (IntKind.i64.wrap ((2 : Int) * (IntKind.i64.wrap n)))).bind fun r2 =>
    some (r2.1, ())

def rnextL1 (b : List Int) (s1 : Int × Int × Int × Unit) (rec2 : (Int × Int × Int × Unit) → Option (Int × Int × Unit)) : Option (Int × Int × Unit) :=
  bif decide (s1.2.2.1 < (b.length : Int)) then
    bif decide (s1.2.2.1 < 5) then
      bif decide (0 ≤ s1.2.2.1) && decide (s1.2.2.1 < b.length) then
        bif decide (0 ≤ s1.2.2.1) && decide (s1.2.2.1 < b.length) then
          bif decide (b.getD s1.2.2.1.toNat 0 < 128) then
            bif decide (s1.2.2.1 > 0) then
              bif decide (0 ≤ s1.2.2.1) && decide (s1.2.2.1 < b.length) then
                bif (b.getD s1.2.2.1.toNat 0) == 0 then
                  some ((0 : Int), ((0 : Int), ()))
                else some (IntKind.i64.wrap (s1.1 + (IntKind.i64.wrap (s1.2.1 * (IntKind.i64.wrap ((b.getD s1.2.2.1.toNat 0).tmod 128))))), IntKind.i64.wrap (s1.2.2.1 + 1), ())
              else none
            else some (IntKind.i64.wrap (s1.1 + (IntKind.i64.wrap (s1.2.1 * (IntKind.i64.wrap ((b.getD s1.2.2.1.toNat 0).tmod 128))))), IntKind.i64.wrap (s1.2.2.1 + 1), ())
          else rec2 (IntKind.i64.wrap (s1.1 + (IntKind.i64.wrap (s1.2.1 * (IntKind.i64.wrap ((b.getD s1.2.2.1.toNat 0).tmod 128))))), IntKind.i64.wrap (s1.2.1 * 128), IntKind.i64.wrap (s1.2.2.1 + 1), ())
        else none
      else none
    else some ((0 : Int), ((0 : Int), ()))
  else some ((0 : Int), ((0 : Int), ()))
def rnextN (fuel : Nat) (b : List Int) : Option (Int × Int × Unit) :=
  loopF (rnextL1 b) fuel ((0 : Int), ((1 : Int), ((0 : Int), ())))

def rinL1 (l : List Int) (x : Int) (s1 : Int × Unit) (rec2 : (Int × Unit) → Option (Bool × Unit)) : Option (Bool × Unit) :=
  bif decide (s1.1 < (l.length : Int)) then
    bif decide (0 ≤ s1.1) && decide (s1.1 < l.length) then
      bif (l.getD s1.1.toNat 0) == x then
        some (true, ())
      else rec2 (IntKind.i64.wrap (s1.1 + 1), ())
    else none
  else some (false, ())
def rinN (fuel : Nat) (l : List Int) (x : Int) : Option (Bool × Unit) :=
  loopF (rinL1 l x) fuel ((0 : Int), ())

def rargsN (o : Int) : Option (Int × Unit) :=
  bif decide (o < 1) then
    some ((-1 : Int), ())
  else bif decide (o > 34) then
    some ((-1 : Int), ())
  else 
    (rin ([1, 3, 4, 18, 19, 22, 23, 29, 30, 31, 34] : List Int) o).bind fun r1 =>
    bif r1.1 then
      some ((1 : Int), ())
    else bif o == 27 then
      some ((2 : Int), ())
    else bif o == 28 then
      some ((2 : Int), ())
    else bif o == 32 then
      some ((2 : Int), ())
    else some ((0 : Int), ())

def getNilN (_r : Unit) (_n : Int) : Int :=
  (0 : Int)

def glongNilN (_r : Unit) : Option (Int × Unit) :=
  some (IntKind.i32.wrap ((BitVec.ofInt 32 (IntKind.i32.wrap ((IntKind.u32.wrap (getNilN () (4294967295 : Int))).fdiv 2)) ^^^ BitVec.ofInt 32 (IntKind.i32.wrap (0 - (IntKind.i32.wrap (IntKind.u32.wrap ((BitVec.ofInt 32 (IntKind.u32.wrap (getNilN () (4294967295 : Int))) &&& BitVec.ofInt 32 1).toNat)))))).toNat), ())

def badNilN (_r : Unit) : Bool :=
  true

def finNilN (_r : Unit) : Bool :=
  false

def awake2N : Option (Bool × Unit) :=
  (put ([] : List Int) (300 : Int)).bind fun r1 =>
  (longN r1.1 (-3 : Int)).bind fun r2 =>
  bif (r2.1.length : Int) == 3 then
    bif decide ((0 : Int) < r2.1.length) then
      bif (r2.1.getD 0 0) == 172 then
        bif decide ((1 : Int) < r2.1.length) then
          bif (r2.1.getD 1 0) == 2 then
            bif decide ((2 : Int) < r2.1.length) then
              bif (r2.1.getD 2 0) == 5 then
                (getN (newN r2.1) (300 : Int)).bind fun r3 =>
                bif r3.1 == 300 then
                  (glongN r3.2.1).bind fun r4 =>
                  bif r4.1 == (-3 : Int) then
                    (finN r4.2.1).bind fun r5 =>
                    bif r5.1 then
                      let r6 := badN r5.2.1
                      bif !r6.1 then
                        some ((rargs (1 : Int)) == 1, ())
                      else some (false, ())
                    else some (false, ())
                  else some (false, ())
                else some (false, ())
              else some (false, ())
            else none
          else some (false, ())
        else none
      else some (false, ())
    else none
  else some (false, ())

def bitsPutsN (b : List Int) (n : Int) (m : Int) : Option (Bool × Unit) :=
  bif decide ((b.length : Int) > 100) then
    awake2N.bind fun r1 =>
    some (r1.1, ())
  else bif decide (n > 1152921504606846976) then
    awake2N.bind fun r2 =>
    some (r2.1, ())
  else bif decide (([] : List Int).length + b.length < rowMax) then
    (put (([] : List Int) ++ b) n).bind fun r3 =>
    bif decide (([] : List Int).length + b.length < rowMax) then
      (longN (([] : List Int) ++ b) m).bind fun r4 =>
      awake2N.bind fun r5 =>
      bif r5.1 then
        (rbytes n).bind fun r6 =>
        bif decide ((strOfNums b).size + (strOfNums r6.1).size ≤ 140737488355328) then
          bif (strOfNums r3.1).toList == ((strOfNums b) ++ (strOfNums r6.1)).toList then
            (rsignedN m).bind fun r7 =>
            bif decide ((strOfNums b).size + (strOfNums r7.1).size ≤ 140737488355328) then
              some ((strOfNums r4.1).toList == ((strOfNums b) ++ (strOfNums r7.1)).toList, ())
            else none
          else some (false, ())
        else none
      else some (false, ())
    else none
  else none

def bitsGetsL1 (l : List Int) (s1 : List Int × Unit) (s3 : Int × Bool × Int × (List Int × Bool × Unit) × Unit) (rec4 : (Int × Bool × Int × (List Int × Bool × Unit) × Unit) → Option (Bool × Unit)) : Option (Bool × Unit) :=
  bif decide (s3.2.2.1 < (l.length : Int)) then
    bif decide (s3.2.2.1 < 60) then
      (bif decide (0 ≤ s3.1) && decide (s3.1 ≤ (s1.1.length : Int)) && decide ((s1.1.length : Int) ≤ (s1.1.length : Int)) then
        (rnext ((s1.1.take s1.1.length).drop s3.1.toNat)).bind fun r7 =>
        (bif decide (0 ≤ s3.2.2.1) && decide (s3.2.2.1 < l.length) then
          bif (l.getD s3.2.2.1.toNat 0) == 0 then
            (glongN s3.2.2.2.1).bind fun r10 =>
            (bif !s3.2.1 then
              bif decide (r7.2.1 > 0) then
                some (.inl (decide (r7.1 < 4294967296), ()))
              else some (.inl (false, ()))
            else some (.inl (false, ())) : Option ((Bool × Unit) ⊕ ((Int × Bool × (List Int × Bool × Unit) × Unit) ⊕ ((Int × Bool × (List Int × Bool × Unit) × Unit) ⊕ (Bool × Unit))))).bind fun q => match q with
            | .inr r12 => some r12
            | .inl s11 =>
              bif s11.1 then
                (rsignedN r10.1).bind fun r13 =>
                bif decide (0 ≤ s3.1) && decide (s3.1 ≤ IntKind.i64.wrap (s3.1 + r7.2.1)) && decide (IntKind.i64.wrap (s3.1 + r7.2.1) ≤ (s1.1.length : Int)) then
                  bif !((strOfNums r13.1).toList == (strOfNums ((s1.1.take (IntKind.i64.wrap (s3.1 + r7.2.1)).toNat).drop s3.1.toNat)).toList) then
                    some (.inr (.inr (false, ())))
                  else some (.inl (IntKind.i64.wrap (s3.1 + r7.2.1), s3.2.1, r10.2.1, ()))
                else none
              else bif r10.1 != 0 then
                some (.inr (.inr (false, ())))
              else some (.inl (s3.1, true, r10.2.1, ()))
          else bif decide (0 ≤ s3.2.2.1) && decide (s3.2.2.1 < l.length) then
            (getN s3.2.2.2.1 (IntKind.i64.wrap (l.getD s3.2.2.1.toNat 0))).bind fun r14 =>
            (bif !s3.2.1 then
              bif decide (r7.2.1 > 0) then
                bif decide (0 ≤ s3.2.2.1) && decide (s3.2.2.1 < l.length) then
                  some (.inl (decide (r7.1 ≤ IntKind.i64.wrap (l.getD s3.2.2.1.toNat 0)), ()))
                else none
              else some (.inl (false, ()))
            else some (.inl (false, ())) : Option ((Bool × Unit) ⊕ ((Int × Bool × (List Int × Bool × Unit) × Unit) ⊕ ((Int × Bool × (List Int × Bool × Unit) × Unit) ⊕ (Bool × Unit))))).bind fun q => match q with
            | .inr r16 => some r16
            | .inl s15 =>
              bif s15.1 then
                bif r14.1 != r7.1 then
                  some (.inr (.inr (false, ())))
                else some (.inl (IntKind.i64.wrap (s3.1 + r7.2.1), s3.2.1, r14.2.1, ()))
              else bif r14.1 != 0 then
                some (.inr (.inr (false, ())))
              else some (.inl (s3.1, true, r14.2.1, ()))
          else none
        else none : Option ((Int × Bool × (List Int × Bool × Unit) × Unit) ⊕ ((Int × Bool × (List Int × Bool × Unit) × Unit) ⊕ (Bool × Unit)))).bind fun q => match q with
        | .inr r9 => some r9
        | .inl s8 =>
          let r17 := badN s8.2.2.1
          bif !(r17.1 == s8.2.1) then
            some (.inr (false, ()))
          else 
            (finN r17.2.1).bind fun r18 =>
            bif !s8.2.1 then
              bif !(r18.1 == (s8.1 == (s1.1.length : Int))) then
                some (.inr (false, ()))
              else some (.inl (s8.1, s8.2.1, r18.2.1, ()))
            else bif !(r18.1 == false) then
              some (.inr (false, ()))
            else some (.inl (s8.1, s8.2.1, r18.2.1, ()))
      else none : Option ((Int × Bool × (List Int × Bool × Unit) × Unit) ⊕ (Bool × Unit))).bind fun q => match q with
      | .inr r6 => some r6
      | .inl s5 =>
        rec4 (s5.1, s5.2.1, IntKind.i64.wrap (s3.2.2.1 + 1), s5.2.2.1, ())
    else 
      awake2N.bind fun r19 =>
      some (r19.1, ())
  else 
    awake2N.bind fun r20 =>
    some (r20.1, ())
def bitsGetsN (fuel : Nat) (b : List Int) (l : List Int) : Option (Bool × Unit) :=
  (bif decide ((b.length : Int) > 200) then
    bif decide ((200 : Int) ≤ (b.length : Int)) then
      some (.inl ((b.take 200).drop 0, ()))
    else none
  else some (.inl (b, ())) : Option ((List Int × Unit) ⊕ (Bool × Unit))).bind fun q => match q with
  | .inr r2 => some r2
  | .inl s1 =>
    loopF (bitsGetsL1 l s1) fuel ((0 : Int), false, ((0 : Int), (newN s1.1), ()))

def bitsBackL1 (l : List Int) (s3 : List Int × Int × Unit) (rec4 : (List Int × Int × Unit) → Option ((List Int × Unit) ⊕ (Bool × Unit))) : Option ((List Int × Unit) ⊕ (Bool × Unit)) :=
  bif decide (s3.2.1 < (l.length : Int)) then
    bif decide (s3.2.1 < 50) then
      bif decide (0 ≤ s3.2.1) && decide (s3.2.1 < l.length) then
        (put s3.1 (IntKind.i64.wrap (l.getD s3.2.1.toNat 0))).bind fun r5 =>
        rec4 (r5.1, IntKind.i64.wrap (s3.2.1 + 1), ())
      else none
    else some (.inl (s3.1, ()))
  else some (.inl (s3.1, ()))
def bitsBackL2 (g : List Int) (s8 : List Int × Int × Unit) (rec9 : (List Int × Int × Unit) → Option ((List Int × Unit) ⊕ (Bool × Unit))) : Option ((List Int × Unit) ⊕ (Bool × Unit)) :=
  bif decide (s8.2.1 < (g.length : Int)) then
    bif decide (s8.2.1 < 50) then
      bif decide (0 ≤ s8.2.1) && decide (s8.2.1 < g.length) then
        (longN s8.1 (g.getD s8.2.1.toNat 0)).bind fun r10 =>
        rec9 (r10.1, IntKind.i64.wrap (s8.2.1 + 1), ())
      else none
    else some (.inl (s8.1, ()))
  else some (.inl (s8.1, ()))
def bitsBackL3 (l : List Int) (s13 : Int × (List Int × Bool × Unit) × Unit) (rec14 : (Int × (List Int × Bool × Unit) × Unit) → Option (((List Int × Bool × Unit) × Unit) ⊕ (Bool × Unit))) : Option (((List Int × Bool × Unit) × Unit) ⊕ (Bool × Unit)) :=
  bif decide (s13.1 < (l.length : Int)) then
    bif decide (s13.1 < 50) then
      (getN s13.2.1 (4294967295 : Int)).bind fun r15 =>
      bif decide (0 ≤ s13.1) && decide (s13.1 < l.length) then
        bif r15.1 != (IntKind.i64.wrap (l.getD s13.1.toNat 0)) then
          some (.inr (false, ()))
        else rec14 (IntKind.i64.wrap (s13.1 + 1), r15.2.1, ())
      else none
    else some (.inl (s13.2.1, ()))
  else some (.inl (s13.2.1, ()))
def bitsBackL4 (g : List Int) (s16 : Int × (List Int × Bool × Unit) × Unit) (rec17 : (Int × (List Int × Bool × Unit) × Unit) → Option (Bool × Unit)) : Option (Bool × Unit) :=
  bif decide (s16.1 < (g.length : Int)) then
    bif decide (s16.1 < 50) then
      (glongN s16.2.1).bind fun r18 =>
      bif decide (0 ≤ s16.1) && decide (s16.1 < g.length) then
        bif r18.1 != (g.getD s16.1.toNat 0) then
          some (false, ())
        else rec17 (IntKind.i64.wrap (s16.1 + 1), r18.2.1, ())
      else none
    else 
      awake2N.bind fun r19 =>
      bif r19.1 then
        (finN s16.2.1).bind fun r20 =>
        some (r20.1, ())
      else some (false, ())
  else 
    awake2N.bind fun r21 =>
    bif r21.1 then
      (finN s16.2.1).bind fun r22 =>
      some (r22.1, ())
    else some (false, ())
def bitsBackN (fuel : Nat) (l : List Int) (g : List Int) : Option (Bool × Unit) :=
  (loopF (bitsBackL1 l) fuel (([] : List Int), ((0 : Int), ())) : Option ((List Int × Unit) ⊕ (Bool × Unit))).bind fun q => match q with
  | .inr r2 => some r2
  | .inl s1 =>
    (loopF (bitsBackL2 g) fuel (s1.1, ((0 : Int), ())) : Option ((List Int × Unit) ⊕ (Bool × Unit))).bind fun q => match q with
    | .inr r7 => some r7
    | .inl s6 =>
      (loopF (bitsBackL3 l) fuel ((0 : Int), (newN s6.1), ()) : Option (((List Int × Bool × Unit) × Unit) ⊕ (Bool × Unit))).bind fun q => match q with
      | .inr r12 => some r12
      | .inl s11 =>
        loopF (bitsBackL4 g) fuel ((0 : Int), s11.1, ())

def bitsNoneN (n : Int) : Option (Bool × Unit) :=
  (getN (newN ([200] : List Int)) n).bind fun r1 =>
  (glongN r1.2.1).bind fun r2 =>
  awake2N.bind fun r3 =>
  bif r3.1 then
    bif (getNilN () n) == 0 then
      (glongNilN ()).bind fun r4 =>
      bif r4.1 == 0 then
        bif !(finNilN ()) then
          bif (badNilN ()) then
            bif r1.1 == 0 then
              bif r2.1 == 0 then
                let r5 := badN r2.2.1
                bif r5.1 then
                  (finN r5.2.1).bind fun r6 =>
                  some (!r6.1, ())
                else some (false, ())
              else some (false, ())
            else some (false, ())
          else some (false, ())
        else some (false, ())
      else some (false, ())
    else some (false, ())
  else some (false, ())

def bitsShortL1 (r1 : List Int × Unit) (s5 : Int × Unit) (rec6 : (Int × Unit) → Option (Bool × Unit)) : Option (Bool × Unit) :=
  bif decide (s5.1 < (r1.1.length : Int)) then
    bif decide (0 ≤ s5.1) && decide (s5.1 < r1.1.length) then
      bif !((decide (r1.1.getD s5.1.toNat 0 ≥ 128)) == (decide (s5.1 < IntKind.i64.wrap ((r1.1.length : Int) - 1)))) then
        some (false, ())
      else rec6 (IntKind.i64.wrap (s5.1 + 1), ())
    else none
  else 
    awake2N.bind fun r7 =>
    some (r7.1, ())
def bitsShortL2 (a : Int) (b : Int) (fuel : Nat) (r1 : List Int × Unit) (r2 : List Int × Unit) (s3 : Int × Int × Unit) (rec4 : (Int × Int × Unit) → Option (Bool × Unit)) : Option (Bool × Unit) :=
  bif decide (s3.2.1 ≥ 128) then
    rec4 (IntKind.i64.wrap (s3.1 + 1), IntKind.i64.wrap (s3.2.1.tdiv 128), ())
  else bif (r1.1.length : Int) != s3.1 then
    some (false, ())
  else bif !(((strOfNums r1.1).toList == (strOfNums r2.1).toList) == (a == b)) then
    some (false, ())
  else loopF (bitsShortL1 r1) fuel ((0 : Int), ())
def bitsShortN (fuel : Nat) (a : Int) (b : Int) : Option (Bool × Unit) :=
  (put ([] : List Int) (IntKind.i64.wrap a)).bind fun r1 =>
  (put ([] : List Int) (IntKind.i64.wrap b)).bind fun r2 =>
  loopF (bitsShortL2 a b fuel r1 r2) fuel ((1 : Int), IntKind.i64.wrap a, ())

def iargsN (o : Int) : Option (Int × Unit) :=
  (bif o == 1 then
    some (.inl (true, ()))
  else bif o == 3 then
    some (.inl (true, ()))
  else bif o == 4 then
    some (.inl (true, ()))
  else bif o == 18 then
    some (.inl (true, ()))
  else bif o == 19 then
    some (.inl (true, ()))
  else bif o == 22 then
    some (.inl (true, ()))
  else bif o == 23 then
    some (.inl (true, ()))
  else bif o == 29 then
    some (.inl (true, ()))
  else bif o == 30 then
    some (.inl (true, ()))
  else bif o == 31 then
    some (.inl (true, ()))
  else some (.inl (o == 34, ())) : Option ((Bool × Unit) ⊕ (Int × Unit))).bind fun q => match q with
  | .inr r2 => some r2
  | .inl s1 =>
    bif s1.1 then
      some ((1 : Int), ())
    else bif o == 27 then
      some ((2 : Int), ())
    else bif o == 28 then
      some ((2 : Int), ())
    else bif o == 32 then
      some ((2 : Int), ())
    else bif decide (o < 1) then
      some ((-1 : Int), ())
    else bif decide (o > 34) then
      some ((-1 : Int), ())
    else some ((0 : Int), ())

def withinN (n : Int) (c : Int) (a : Int) : Option (Bool × Unit) :=
  bif decide (a ≥ c) then
    some (n == 0, ())
  else bif decide (n ≥ 0) then
    some (decide (n ≤ 255), ())
  else some (false, ())

def igoodN (i : Int × Int × Int × Unit) : Option (Bool × Unit) :=
  bif decide ((iargs i.1) ≥ 0) then
    bif (within i.2.1 (iargs i.1) (0 : Int)) then
      some ((within i.2.2.1 (iargs i.1) (1 : Int)), ())
    else some (false, ())
  else some (false, ())

def iputL1 (i : Int × Int × Int × Unit) (s2 : List Int × Int × Unit) (rec3 : (List Int × Int × Unit) → Option (List Int × Unit)) : Option (List Int × Unit) :=
  bif decide (s2.2.1 < ((([i.2.1, i.2.2.1].take (max (iargs i.1) 0).toNat).drop 0).length : Int)) then
    bif decide (0 ≤ s2.2.1) && decide (s2.2.1 < (([i.2.1, i.2.2.1].take (max (iargs i.1) 0).toNat).drop 0).length) then
      (put s2.1 ((([i.2.1, i.2.2.1].take (max (iargs i.1) 0).toNat).drop 0).getD s2.2.1.toNat 0)).bind fun r4 =>
      rec3 (r4.1, IntKind.i64.wrap (s2.2.1 + 1), ())
    else none
  else some (s2.1, ())
def iputN (fuel : Nat) (b : List Int) (i : Int × Int × Int × Unit) : Option (List Int × Unit) :=
  (put b i.1).bind fun r1 =>
  bif decide ((0 : Int) ≤ max (iargs i.1) 0) && decide (max (iargs i.1) 0 ≤ ([i.2.1, i.2.2.1].length : Int)) then
    loopF (iputL1 i) fuel (r1.1, ((0 : Int), ()))
  else none

def igetN (r : List Int × Bool × Unit) : Option ((Int × Int × Int × Unit) × (List Int × Bool × Unit) × Unit) :=
  (getN r (34 : Int)).bind fun r1 =>
  bif decide ((iargs r1.1) > 0) then
    (getN r1.2.1 (255 : Int)).bind fun r2 =>
    bif decide ((iargs r1.1) > 1) then
      (getN r2.2.1 (255 : Int)).bind fun r3 =>
      some ((r1.1, r2.1, r3.1, ()), r3.2.1, ())
    else some ((r1.1, r2.1, ((0 : Int), ())), r2.2.1, ())
  else bif decide ((iargs r1.1) > 1) then
    (getN r1.2.1 (255 : Int)).bind fun r4 =>
    some ((r1.1, ((0 : Int), r4.1, ())), r4.2.1, ())
  else some ((r1.1, ((0 : Int), ((0 : Int), ()))), r1.2.1, ())

def rinstrN (i : Int × Int × Int × Unit) : Option (Bool × Unit) :=
  (bif decide ((rargs i.1) < 0) then
    some (.inr (false, ()))
  else bif decide ((rargs i.1) < 1) then
    bif i.2.1 != 0 then
      some (.inr (false, ()))
    else bif decide ((rargs i.1) < 2) then
      bif i.2.2.1 != 0 then
        some (.inr (false, ()))
      else some (.inl ())
    else some (.inl ())
  else bif decide ((rargs i.1) < 2) then
    bif i.2.2.1 != 0 then
      some (.inr (false, ()))
    else some (.inl ())
  else some (.inl ()) : Option (Unit ⊕ (Bool × Unit))).bind fun q => match q with
  | .inr r2 => some r2
  | .inl _ =>
    bif decide (i.2.1 ≥ 0) then
      bif decide (i.2.1 ≤ 255) then
        bif decide (i.2.2.1 ≥ 0) then
          some (decide (i.2.2.1 ≤ 255), ())
        else some (false, ())
      else some (false, ())
    else some (false, ())

def awake4N : Option (Bool × Unit) :=
  (iput ([] : List Int) ((27 : Int), ((3 : Int), ((200 : Int), ())))).bind fun r1 =>
  bif (iargs (33 : Int)) == 0 then
    bif (iargs (99 : Int)) == (-1 : Int) then
      bif (igood ((27 : Int), ((3 : Int), ((200 : Int), ())))) then
        bif (r1.1.length : Int) == 4 then
          (igetN (newN r1.1)).bind fun r2 =>
          bif (r2.1.1 == 27) && ((r2.1.2.1 == 3) && ((r2.1.2.2.1 == 200) && true)) then
            some ((rinstr ((27 : Int), ((3 : Int), ((200 : Int), ())))), ())
          else some (false, ())
        else some (false, ())
      else some (false, ())
    else some (false, ())
  else some (false, ())

def instKindsN (i : Int × Int × Int × Unit) : Option (Bool × Unit) :=
  awake4N.bind fun r1 =>
  bif r1.1 then
    bif (iargs i.1) == (rargs i.1) then
      some ((igood i) == (rinstr i), ())
    else some (false, ())
  else some (false, ())

def instPutsN (b : List Int) (i : Int × Int × Int × Unit) : Option (Bool × Unit) :=
  bif decide ((b.length : Int) > 50) then
    awake4N.bind fun r1 =>
    some (r1.1, ())
  else bif decide (i.1 > 1152921504606846976) then
    awake4N.bind fun r2 =>
    some (r2.1, ())
  else bif decide (i.2.1 > 1152921504606846976) then
    awake4N.bind fun r3 =>
    some (r3.1, ())
  else bif decide (i.2.2.1 > 1152921504606846976) then
    awake4N.bind fun r4 =>
    some (r4.1, ())
  else bif decide (([] : List Int).length + b.length < rowMax) then
    (rbytes i.1).bind fun r5 =>
    bif decide ((([] : List Int) ++ b).length + r5.1.length < rowMax) then
      (bif decide ((rargs i.1) > 0) then
        (rbytes i.2.1).bind fun r8 =>
        bif decide (((([] : List Int) ++ b) ++ r5.1).length + r8.1.length < rowMax) then
          some (.inl (((([] : List Int) ++ b) ++ r5.1) ++ r8.1, ()))
        else none
      else some (.inl ((([] : List Int) ++ b) ++ r5.1, ())) : Option ((List Int × Unit) ⊕ (Bool × Unit))).bind fun q => match q with
      | .inr r7 => some r7
      | .inl s6 =>
        (bif decide ((rargs i.1) > 1) then
          (rbytes i.2.2.1).bind fun r11 =>
          bif decide (s6.1.length + r11.1.length < rowMax) then
            some (.inl (s6.1 ++ r11.1, ()))
          else none
        else some (.inl (s6.1, ())) : Option ((List Int × Unit) ⊕ (Bool × Unit))).bind fun q => match q with
        | .inr r10 => some r10
        | .inl s9 =>
          bif decide (([] : List Int).length + b.length < rowMax) then
            (iput (([] : List Int) ++ b) i).bind fun r12 =>
            bif decide ((r12.1.length : Int) < (b.length : Int)) then
              some (false, ())
            else bif !((strOfNums r12.1).toList == (strOfNums s9.1).toList) then
              some (false, ())
            else bif !(rinstr i) then
              awake4N.bind fun r13 =>
              some (r13.1, ())
            else bif decide (0 ≤ (b.length : Int)) && decide ((b.length : Int) ≤ (r12.1.length : Int)) && decide ((r12.1.length : Int) ≤ (r12.1.length : Int)) then
              awake4N.bind fun r14 =>
              bif r14.1 then
                (igetN (newN ((r12.1.take r12.1.length).drop b.length))).bind fun r15 =>
                bif (r15.1.1 == i.1) && ((r15.1.2.1 == i.2.1) && ((r15.1.2.2.1 == i.2.2.1) && true)) then
                  (finN r15.2.1).bind fun r16 =>
                  some (r16.1, ())
                else some (false, ())
              else some (false, ())
            else none
          else none
    else none
  else none

def instGetsN (b : List Int) : Option (Bool × Unit) :=
  (bif decide ((b.length : Int) > 50) then
    bif decide ((50 : Int) ≤ (b.length : Int)) then
      some (.inl ((b.take 50).drop 0, ()))
    else none
  else some (.inl (b, ())) : Option ((List Int × Unit) ⊕ (Bool × Unit))).bind fun q => match q with
  | .inr r2 => some r2
  | .inl s1 =>
    (igetN (newN s1.1)).bind fun r3 =>
    let r4 := badN r3.2.1
    bif r4.1 then
      awake4N.bind fun r5 =>
      some (r5.1, ())
    else 
      (iput ([] : List Int) r3.1).bind fun r6 =>
      awake4N.bind fun r7 =>
      bif r7.1 then
        bif decide ((r6.1.length : Int) ≤ (s1.1.length : Int)) then
          bif decide ((0 : Int) ≤ (r6.1.length : Int)) && decide ((r6.1.length : Int) ≤ (s1.1.length : Int)) then
            bif (strOfNums ((s1.1.take r6.1.length).drop 0)).toList == (strOfNums r6.1).toList then
              (finN r4.2.1).bind fun r8 =>
              bif r8.1 == ((r6.1.length : Int) == (s1.1.length : Int)) then
                bif r3.1.1 == 0 then
                  some (true, ())
                else some ((igood r3.1), ())
              else some (false, ())
            else some (false, ())
          else none
        else some (false, ())
      else some (false, ())

def instRowL1 (l : List (Int × Int × Int × Unit)) (s3 : List Int × Int × Int × Unit) (rec4 : (List Int × Int × Int × Unit) → Option ((List Int × Int × Unit) ⊕ (Bool × Unit))) : Option ((List Int × Int × Unit) ⊕ (Bool × Unit)) :=
  bif decide (s3.2.2.1 < (l.length : Int)) then
    bif decide (s3.2.2.1 < 60) then
      bif decide (0 ≤ s3.2.2.1) && decide (s3.2.2.1 < l.length) then
        bif (igood (l.getD s3.2.2.1.toNat ((0 : Int), ((0 : Int), ((0 : Int), ()))))) then
          bif decide (0 ≤ s3.2.2.1) && decide (s3.2.2.1 < l.length) then
            (iput s3.1 (l.getD s3.2.2.1.toNat ((0 : Int), ((0 : Int), ((0 : Int), ()))))).bind fun r5 =>
            rec4 (r5.1, IntKind.i64.wrap (s3.2.1 + 1), IntKind.i64.wrap (s3.2.2.1 + 1), ())
          else none
        else rec4 (s3.1, s3.2.1, IntKind.i64.wrap (s3.2.2.1 + 1), ())
      else none
    else some (.inl (s3.1, s3.2.1, ()))
  else some (.inl (s3.1, s3.2.1, ()))
def instRowL2 (l : List (Int × Int × Int × Unit)) (s8 : Int × (List Int × Bool × Unit) × Unit) (rec9 : (Int × (List Int × Bool × Unit) × Unit) → Option (((List Int × Bool × Unit) × Unit) ⊕ (Bool × Unit))) : Option (((List Int × Bool × Unit) × Unit) ⊕ (Bool × Unit)) :=
  bif decide (s8.1 < (l.length : Int)) then
    bif decide (s8.1 < 60) then
      bif decide (0 ≤ s8.1) && decide (s8.1 < l.length) then
        bif (igood (l.getD s8.1.toNat ((0 : Int), ((0 : Int), ((0 : Int), ()))))) then
          (igetN s8.2.1).bind fun r10 =>
          bif decide (0 ≤ s8.1) && decide (s8.1 < l.length) then
            bif !((r10.1.1 == ((l.getD s8.1.toNat ((0 : Int), ((0 : Int), ((0 : Int), ())))).1)) && ((r10.1.2.1 == ((l.getD s8.1.toNat ((0 : Int), ((0 : Int), ((0 : Int), ())))).2.1)) && ((r10.1.2.2.1 == ((l.getD s8.1.toNat ((0 : Int), ((0 : Int), ((0 : Int), ())))).2.2.1)) && true))) then
              some (.inr (false, ()))
            else rec9 (IntKind.i64.wrap (s8.1 + 1), r10.2.1, ())
          else none
        else rec9 (IntKind.i64.wrap (s8.1 + 1), s8.2.1, ())
      else none
    else some (.inl (s8.2.1, ()))
  else some (.inl (s8.2.1, ()))
def instRowN (fuel : Nat) (l : List (Int × Int × Int × Unit)) : Option (Bool × Unit) :=
  (loopF (instRowL1 l) fuel (([] : List Int), ((0 : Int), ((0 : Int), ()))) : Option ((List Int × Int × Unit) ⊕ (Bool × Unit))).bind fun q => match q with
  | .inr r2 => some r2
  | .inl s1 =>
    (loopF (instRowL2 l) fuel ((0 : Int), (newN s1.1), ()) : Option (((List Int × Bool × Unit) × Unit) ⊕ (Bool × Unit))).bind fun q => match q with
    | .inr r7 => some r7
    | .inl s6 =>
      awake4N.bind fun r11 =>
      bif r11.1 then
        (finN s6.1).bind fun r12 =>
        bif r12.1 then
          bif decide ((s1.1.length : Int) ≥ s1.2.1) then
            some (decide ((s1.1.length : Int) ≤ IntKind.i64.wrap ((5 : Int) * s1.2.1)), ())
          else some (false, ())
        else some (false, ())
      else some (false, ())

end Go.Pli
