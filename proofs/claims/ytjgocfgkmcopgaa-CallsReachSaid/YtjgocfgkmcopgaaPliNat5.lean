import Derived.Test.YtjgocfgkmcopgaaPliSpec5
import Derived.Test.YtjgocfgkmcopgaaPliNatBits
namespace Go.Pli
open Go Go.PM

def indexClassLen (l : List Cl) (_c : Unit) : Prop := (l.length ≤ lenMax ∧ ∀ x1 : Cl, x1 ∈ l → (True ∧ ((x1.2.1.length ≤ lenMax ∧ ∀ x2 : Tp, x2 ∈ x1.2.1 → (True ∧ (True ∧ True))) ∧ ((x1.2.2.1.length ≤ lenMax ∧ ∀ x2 : Int, x2 ∈ x1.2.2.1 → True) ∧ True)))) ∧ True ∧ True
def indexClassL1 (l : List Cl) (s1 : Int × Unit) (rec2 : (Int × Unit) → Option (Int × Unit)) : Option (Int × Unit) :=
  bif decide (s1.1 < (l.length : Int)) then
    bif decide (0 ≤ s1.1) && decide (s1.1 < l.length) then
      bif (ifits1 (l.getD s1.1.toNat zCl)) then
        some (s1.1, ())
      else rec2 (IntKind.i64.wrap (s1.1 + 1), ())
    else none
  else some ((-1 : Int), ())
def indexClassN (fuel : Nat) (l : List Cl) (_c : Unit) : Option (Int × Unit) :=
  loopF (indexClassL1 l) fuel ((0 : Int), ())

def containsClassLen (l : List Cl) (_c : Unit) : Prop := (l.length ≤ lenMax ∧ ∀ x1 : Cl, x1 ∈ l → (True ∧ ((x1.2.1.length ≤ lenMax ∧ ∀ x2 : Tp, x2 ∈ x1.2.1 → (True ∧ (True ∧ True))) ∧ ((x1.2.2.1.length ≤ lenMax ∧ ∀ x2 : Int, x2 ∈ x1.2.2.1 → True) ∧ True)))) ∧ True ∧ True
def containsClassN (l : List Cl) (c : Unit) : Option (Bool × Unit) :=
  some (decide ((indexClass l c) ≥ 0), ())

def indexMethodLen (l : List Mt) (_c : Unit) : Prop := (l.length ≤ lenMax ∧ ∀ x1 : Mt, x1 ∈ l → ((x1.1.length ≤ lenMax ∧ ∀ x2 : Tp, x2 ∈ x1.1 → (True ∧ (True ∧ True))) ∧ ((x1.2.1.length ≤ lenMax ∧ ∀ x2 : Tp, x2 ∈ x1.2.1 → (True ∧ (True ∧ True))) ∧ ((True ∧ (True ∧ True)) ∧ ((x1.2.2.2.1.length ≤ lenMax ∧ ∀ x2 : Ins, x2 ∈ x1.2.2.2.1 → (True ∧ (True ∧ (True ∧ True)))) ∧ (True ∧ (True ∧ ((x1.2.2.2.2.2.2.1.length ≤ lenMax ∧ ∀ x2 : Int, x2 ∈ x1.2.2.2.2.2.2.1 → True) ∧ True)))))))) ∧ True ∧ True
def indexMethodL1 (l : List Mt) (s1 : Int × Unit) (rec2 : (Int × Unit) → Option (Int × Unit)) : Option (Int × Unit) :=
  bif decide (s1.1 < (l.length : Int)) then
    bif decide (0 ≤ s1.1) && decide (s1.1 < l.length) then
      bif (ifits2 (l.getD s1.1.toNat zMt)) then
        some (s1.1, ())
      else rec2 (IntKind.i64.wrap (s1.1 + 1), ())
    else none
  else some ((-1 : Int), ())
def indexMethodN (fuel : Nat) (l : List Mt) (_c : Unit) : Option (Int × Unit) :=
  loopF (indexMethodL1 l) fuel ((0 : Int), ())

def containsMethodLen (l : List Mt) (_c : Unit) : Prop := (l.length ≤ lenMax ∧ ∀ x1 : Mt, x1 ∈ l → ((x1.1.length ≤ lenMax ∧ ∀ x2 : Tp, x2 ∈ x1.1 → (True ∧ (True ∧ True))) ∧ ((x1.2.1.length ≤ lenMax ∧ ∀ x2 : Tp, x2 ∈ x1.2.1 → (True ∧ (True ∧ True))) ∧ ((True ∧ (True ∧ True)) ∧ ((x1.2.2.2.1.length ≤ lenMax ∧ ∀ x2 : Ins, x2 ∈ x1.2.2.2.1 → (True ∧ (True ∧ (True ∧ True)))) ∧ (True ∧ (True ∧ ((x1.2.2.2.2.2.2.1.length ≤ lenMax ∧ ∀ x2 : Int, x2 ∈ x1.2.2.2.2.2.2.1 → True) ∧ True)))))))) ∧ True ∧ True
def containsMethodN (l : List Mt) (c : Unit) : Option (Bool × Unit) :=
  some (decide ((indexMethod l c) ≥ 0), ())

def indexTypesLen (l : List Tp) (_c : Unit) : Prop := (l.length ≤ lenMax ∧ ∀ x1 : Tp, x1 ∈ l → (True ∧ (True ∧ True))) ∧ True ∧ True
def indexTypesL1 (l : List Tp) (s1 : Int × Unit) (rec2 : (Int × Unit) → Option (Int × Unit)) : Option (Int × Unit) :=
  bif decide (s1.1 < (l.length : Int)) then
    bif decide (0 ≤ s1.1) && decide (s1.1 < l.length) then
      bif (ityp1 (l.getD s1.1.toNat zTp)) then
        some (s1.1, ())
      else rec2 (IntKind.i64.wrap (s1.1 + 1), ())
    else none
  else some ((-1 : Int), ())
def indexTypesN (fuel : Nat) (l : List Tp) (_c : Unit) : Option (Int × Unit) :=
  loopF (indexTypesL1 l) fuel ((0 : Int), ())

def containsTypesLen (l : List Tp) (_c : Unit) : Prop := (l.length ≤ lenMax ∧ ∀ x1 : Tp, x1 ∈ l → (True ∧ (True ∧ True))) ∧ True ∧ True
def containsTypesN (l : List Tp) (c : Unit) : Option (Bool × Unit) :=
  some (decide ((indexTypes l c) ≥ 0), ())

def indexEntryLen (l : List Tp) (_c : Unit × Unit) : Prop := (l.length ≤ lenMax ∧ ∀ x1 : Tp, x1 ∈ l → (True ∧ (True ∧ True))) ∧ (True ∧ True) ∧ True
def indexEntryL1 (l : List Tp) (c : Unit × Unit) (s1 : Int × Unit) (rec2 : (Int × Unit) → Option (Int × Unit)) : Option (Int × Unit) :=
  bif decide (s1.1 < (l.length : Int)) then
    bif decide (0 ≤ s1.1) && decide (s1.1 < l.length) then
      bif (sentry2 (l.getD s1.1.toNat zTp) c.1) then
        some (s1.1, ())
      else rec2 (IntKind.i64.wrap (s1.1 + 1), ())
    else none
  else some ((-1 : Int), ())
def indexEntryN (fuel : Nat) (l : List Tp) (c : Unit × Unit) : Option (Int × Unit) :=
  loopF (indexEntryL1 l c) fuel ((0 : Int), ())

def containsEntryLen (l : List Tp) (_c : Unit × Unit) : Prop := (l.length ≤ lenMax ∧ ∀ x1 : Tp, x1 ∈ l → (True ∧ (True ∧ True))) ∧ (True ∧ True) ∧ True
def containsEntryN (l : List Tp) (c : Unit × Unit) : Option (Bool × Unit) :=
  some (decide ((indexEntry l c) ≥ 0), ())

def indexNumsLen (l : List Int) (_c : Int × Unit) : Prop := (l.length ≤ lenMax ∧ ∀ x1 : Int, x1 ∈ l → True) ∧ (True ∧ True) ∧ True
def indexNumsL1 (l : List Int) (c : Int × Unit) (s1 : Int × Unit) (rec2 : (Int × Unit) → Option (Int × Unit)) : Option (Int × Unit) :=
  bif decide (s1.1 < (l.length : Int)) then
    bif decide (0 ≤ s1.1) && decide (s1.1 < l.length) then
      bif (inum1 (l.getD s1.1.toNat 0) c.1) then
        some (s1.1, ())
      else rec2 (IntKind.i64.wrap (s1.1 + 1), ())
    else none
  else some ((-1 : Int), ())
def indexNumsN (fuel : Nat) (l : List Int) (c : Int × Unit) : Option (Int × Unit) :=
  loopF (indexNumsL1 l c) fuel ((0 : Int), ())

def containsNumsLen (l : List Int) (_c : Int × Unit) : Prop := (l.length ≤ lenMax ∧ ∀ x1 : Int, x1 ∈ l → True) ∧ (True ∧ True) ∧ True
def containsNumsN (l : List Int) (c : Int × Unit) : Option (Bool × Unit) :=
  some (decide ((indexNums l c) ≥ 0), ())

def clipByN (s : List Int) : Option (List Int × Unit) :=
  bif decide ((s.length : Int) = (s.length : Int)) && decide ((s.length : Int) = (s.length : Int)) then
    some (s, ())
  else none

def clipCN (s : List Cl) : Option (List Cl × Unit) :=
  bif decide ((s.length : Int) = (s.length : Int)) && decide ((s.length : Int) = (s.length : Int)) then
    some (s, ())
  else none

def clipMN (s : List Mt) : Option (List Mt × Unit) :=
  bif decide ((s.length : Int) = (s.length : Int)) && decide ((s.length : Int) = (s.length : Int)) then
    some (s, ())
  else none

def clipTN (s : List Tp) : Option (List Tp × Unit) :=
  bif decide ((s.length : Int) = (s.length : Int)) && decide ((s.length : Int) = (s.length : Int)) then
    some (s, ())
  else none

def clipIN (s : List Int) : Option (List Int × Unit) :=
  bif decide ((s.length : Int) = (s.length : Int)) && decide ((s.length : Int) = (s.length : Int)) then
    some (s, ())
  else none

def clipXN (s : List Ins) : Option (List Ins × Unit) :=
  bif decide ((s.length : Int) = (s.length : Int)) && decide ((s.length : Int) = (s.length : Int)) then
    some (s, ())
  else none

def clipJN (s : List Int) : Option (List Int × Unit) :=
  bif decide ((s.length : Int) = (s.length : Int)) && decide ((s.length : Int) = (s.length : Int)) then
    some (s, ())
  else none

def cloneTN (s : List Tp) : Option (List Tp × Unit) :=
  bif decide (([] : List Tp).length + s.length < rowMax) then
    some (([] : List Tp) ++ s, ())
  else none

def cloneJN (s : List Int) : Option (List Int × Unit) :=
  bif decide (([] : List Int).length + s.length < rowMax) then
    some (([] : List Int) ++ s, ())
  else none

def cloneIN (s : List Int) : Option (List Int × Unit) :=
  bif decide (([] : List Int).length + s.length < rowMax) then
    some (([] : List Int) ++ s, ())
  else none

def cloneXN (s : List Ins) : Option (List Ins × Unit) :=
  bif decide (([] : List Ins).length + s.length < rowMax) then
    some (([] : List Ins) ++ s, ())
  else none

def anTN (s : List Tp) : Option (List Tp × Unit) :=
  (cloneTN s).bind fun r1 =>
  some ((idL r1.1), ())

def anJN (s : List Int) : Option (List Int × Unit) :=
  (cloneJN s).bind fun r1 =>
  some ((idL r1.1), ())

def anIN (s : List Int) : Option (List Int × Unit) :=
  (cloneIN s).bind fun r1 =>
  some ((idL r1.1), ())

def anXN (s : List Ins) : Option (List Ins × Unit) :=
  (cloneXN s).bind fun r1 =>
  some ((idL r1.1), ())

def eqTLen (a : List Tp) (b : List Tp) : Prop := (a.length ≤ lenMax ∧ ∀ x1 : Tp, x1 ∈ a → (True ∧ (True ∧ True))) ∧ (b.length ≤ lenMax ∧ ∀ x1 : Tp, x1 ∈ b → (True ∧ (True ∧ True))) ∧ True
def eqTL1 (a : List Tp) (b : List Tp) (s1 : Int × Unit) (rec2 : (Int × Unit) → Option (Bool × Unit)) : Option (Bool × Unit) :=
  bif decide (s1.1 < (a.length : Int)) then
    bif decide (0 ≤ s1.1) && decide (s1.1 < a.length) then
      bif decide (0 ≤ s1.1) && decide (s1.1 < b.length) then
        bif !((((a.getD s1.1.toNat zTp).1) == ((b.getD s1.1.toNat zTp).1)) && ((((a.getD s1.1.toNat zTp).2.1) == ((b.getD s1.1.toNat zTp).2.1)) && true)) then
          some (false, ())
        else rec2 (IntKind.i64.wrap (s1.1 + 1), ())
      else none
    else none
  else some (true, ())
def eqTN (fuel : Nat) (a : List Tp) (b : List Tp) : Option (Bool × Unit) :=
  bif (a.length : Int) != (b.length : Int) then
    some (false, ())
  else loopF (eqTL1 a b) fuel ((0 : Int), ())

def eqJLen (a : List Int) (b : List Int) : Prop := (a.length ≤ lenMax ∧ ∀ x1 : Int, x1 ∈ a → True) ∧ (b.length ≤ lenMax ∧ ∀ x1 : Int, x1 ∈ b → True) ∧ True
def eqJL1 (a : List Int) (b : List Int) (s1 : Int × Unit) (rec2 : (Int × Unit) → Option (Bool × Unit)) : Option (Bool × Unit) :=
  bif decide (s1.1 < (a.length : Int)) then
    bif decide (0 ≤ s1.1) && decide (s1.1 < a.length) then
      bif decide (0 ≤ s1.1) && decide (s1.1 < b.length) then
        bif (a.getD s1.1.toNat 0) != (b.getD s1.1.toNat 0) then
          some (false, ())
        else rec2 (IntKind.i64.wrap (s1.1 + 1), ())
      else none
    else none
  else some (true, ())
def eqJN (fuel : Nat) (a : List Int) (b : List Int) : Option (Bool × Unit) :=
  bif (a.length : Int) != (b.length : Int) then
    some (false, ())
  else loopF (eqJL1 a b) fuel ((0 : Int), ())

def eqILen (a : List Int) (b : List Int) : Prop := (a.length ≤ lenMax ∧ ∀ x1 : Int, x1 ∈ a → True) ∧ (b.length ≤ lenMax ∧ ∀ x1 : Int, x1 ∈ b → True) ∧ True
def eqIL1 (a : List Int) (b : List Int) (s1 : Int × Unit) (rec2 : (Int × Unit) → Option (Bool × Unit)) : Option (Bool × Unit) :=
  bif decide (s1.1 < (a.length : Int)) then
    bif decide (0 ≤ s1.1) && decide (s1.1 < a.length) then
      bif decide (0 ≤ s1.1) && decide (s1.1 < b.length) then
        bif (a.getD s1.1.toNat 0) != (b.getD s1.1.toNat 0) then
          some (false, ())
        else rec2 (IntKind.i64.wrap (s1.1 + 1), ())
      else none
    else none
  else some (true, ())
def eqIN (fuel : Nat) (a : List Int) (b : List Int) : Option (Bool × Unit) :=
  bif (a.length : Int) != (b.length : Int) then
    some (false, ())
  else loopF (eqIL1 a b) fuel ((0 : Int), ())

def eqXLen (a : List Ins) (b : List Ins) : Prop := (a.length ≤ lenMax ∧ ∀ x1 : Ins, x1 ∈ a → (True ∧ (True ∧ (True ∧ True)))) ∧ (b.length ≤ lenMax ∧ ∀ x1 : Ins, x1 ∈ b → (True ∧ (True ∧ (True ∧ True)))) ∧ True
def eqXL1 (a : List Ins) (b : List Ins) (s1 : Int × Unit) (rec2 : (Int × Unit) → Option (Bool × Unit)) : Option (Bool × Unit) :=
  bif decide (s1.1 < (a.length : Int)) then
    bif decide (0 ≤ s1.1) && decide (s1.1 < a.length) then
      bif decide (0 ≤ s1.1) && decide (s1.1 < b.length) then
        bif !((((a.getD s1.1.toNat zIns).1) == ((b.getD s1.1.toNat zIns).1)) && ((((a.getD s1.1.toNat zIns).2.1) == ((b.getD s1.1.toNat zIns).2.1)) && ((((a.getD s1.1.toNat zIns).2.2.1) == ((b.getD s1.1.toNat zIns).2.2.1)) && true))) then
          some (false, ())
        else rec2 (IntKind.i64.wrap (s1.1 + 1), ())
      else none
    else none
  else some (true, ())
def eqXN (fuel : Nat) (a : List Ins) (b : List Ins) : Option (Bool × Unit) :=
  bif (a.length : Int) != (b.length : Int) then
    some (false, ())
  else loopF (eqXL1 a b) fuel ((0 : Int), ())

def iwithinN (n : Int) (m : Int) : Option (Bool × Unit) :=
  bif decide (n ≥ 0) then
    some (decide (n ≤ m), ())
  else some (false, ())

def itypN (t : Tp) : Option (Bool × Unit) :=
  bif (iwithin t.1 (5 : Int)) then
    bif t.2.1 == 0 then
      some (true, ())
    else bif t.1 == 3 then
      some ((iwithin t.2.1 (7 : Int)), ())
    else some (false, ())
  else some (false, ())

def ityp1N (t : Tp) : Option (Bool × Unit) :=
  some (!(ityp t), ())

def itypesN (l : List Tp) (m : Int) : Option (Bool × Unit) :=
  bif decide ((l.length : Int) ≤ m) then
    some (!(containsTypes l ()), ())
  else some (false, ())

def inum1N (n : Int) (m : Int) : Option (Bool × Unit) :=
  some (!(iwithin n m), ())

def inumsN (l : List Int) (c : Int) (m : Int) : Option (Bool × Unit) :=
  bif decide ((l.length : Int) ≤ c) then
    some (!(containsNums l (m, ())), ())
  else some (false, ())

def imethodL1 (x : Mt) (s1 : Int × Unit) (rec2 : (Int × Unit) → Option (Bool × Unit)) : Option (Bool × Unit) :=
  bif decide (s1.1 < (x.2.2.2.1.length : Int)) then
    bif decide (0 ≤ s1.1) && decide (s1.1 < x.2.2.2.1.length) then
      bif !(igood (x.2.2.2.1.getD s1.1.toNat zIns)) then
        some (false, ())
      else rec2 (IntKind.i64.wrap (s1.1 + 1), ())
    else none
  else bif (iwithin x.2.2.2.2.1 (8 : Int)) then
    bif (iwithin x.2.2.2.2.2.1 (4096 : Int)) then
      some ((inums x.2.2.2.2.2.2.1 (64 : Int) (4096 : Int)), ())
    else some (false, ())
  else some (false, ())
def imethodN (fuel : Nat) (x : Mt) : Option (Bool × Unit) :=
  bif !(itypes x.1 (4 : Int)) then
    some (false, ())
  else bif !(itypes x.2.1 (8 : Int)) then
    some (false, ())
  else bif !(ityp x.2.2.1) then
    some (false, ())
  else bif decide ((x.2.2.2.1.length : Int) > 64) then
    some (false, ())
  else loopF (imethodL1 x) fuel ((0 : Int), ())

def iclassN (x : Cl) : Option (Bool × Unit) :=
  bif decide (x.1 ≥ (-1 : Int)) then
    bif decide (x.1 < 8) then
      bif (itypes x.2.1 (8 : Int)) then
        some ((inums x.2.2.1 (4 : Int) (11 : Int)), ())
      else some (false, ())
    else some (false, ())
  else some (false, ())

def ifits1N (x : Cl) : Option (Bool × Unit) :=
  some (!(iclass x), ())

def ifits2N (x : Mt) : Option (Bool × Unit) :=
  some (!(imethod x), ())

def ifitsN (m : Im) : Option (Bool × Unit) :=
  bif decide ((m.1.length : Int) > 8) then
    some (false, ())
  else bif !(itypes m.2.1 (8 : Int)) then
    some (false, ())
  else bif decide ((m.2.2.1.length : Int) > 16) then
    some (false, ())
  else bif decide ((m.2.2.2.1.length : Int) > 12) then
    some (false, ())
  else bif (containsClass m.1 ()) then
    some (false, ())
  else bif (containsMethod m.2.2.2.1 ()) then
    some (false, ())
  else bif (inums m.2.2.2.2.1 (12 : Int) (11 : Int)) then
    bif (iwithin m.2.2.2.2.2.1 (4096 : Int)) then
      some ((iwithin m.2.2.2.2.2.2.1 (4096 : Int)), ())
    else some (false, ())
  else some (false, ())

def putTypeN (b : List Int) (t : Tp) : Option (List Int × Unit) :=
  (put b t.1).bind fun r1 =>
  bif t.1 == 3 then
    (put r1.1 t.2.1).bind fun r2 =>
    some (r2.1, ())
  else some (r1.1, ())

def putTypesL1 (l : List Tp) (s2 : List Int × Int × Unit) (rec3 : (List Int × Int × Unit) → Option (List Int × Unit)) : Option (List Int × Unit) :=
  bif decide (s2.2.1 < (l.length : Int)) then
    bif decide (0 ≤ s2.2.1) && decide (s2.2.1 < l.length) then
      (putType s2.1 (l.getD s2.2.1.toNat zTp)).bind fun r4 =>
      rec3 (r4.1, IntKind.i64.wrap (s2.2.1 + 1), ())
    else none
  else some (s2.1, ())
def putTypesN (fuel : Nat) (b : List Int) (l : List Tp) : Option (List Int × Unit) :=
  (put b (l.length : Int)).bind fun r1 =>
  loopF (putTypesL1 l) fuel (r1.1, ((0 : Int), ()))

def putNumsL1 (l : List Int) (s2 : List Int × Int × Unit) (rec3 : (List Int × Int × Unit) → Option (List Int × Unit)) : Option (List Int × Unit) :=
  bif decide (s2.2.1 < (l.length : Int)) then
    bif decide (0 ≤ s2.2.1) && decide (s2.2.1 < l.length) then
      (put s2.1 (l.getD s2.2.1.toNat 0)).bind fun r4 =>
      rec3 (r4.1, IntKind.i64.wrap (s2.2.1 + 1), ())
    else none
  else some (s2.1, ())
def putNumsN (fuel : Nat) (b : List Int) (l : List Int) : Option (List Int × Unit) :=
  (put b (l.length : Int)).bind fun r1 =>
  loopF (putNumsL1 l) fuel (r1.1, ((0 : Int), ()))

def putMethodL1 (x : Mt) (s5 : List Int × Int × Unit) (rec6 : (List Int × Int × Unit) → Option (List Int × Unit)) : Option (List Int × Unit) :=
  bif decide (s5.2.1 < (x.2.2.2.1.length : Int)) then
    bif decide (0 ≤ s5.2.1) && decide (s5.2.1 < x.2.2.2.1.length) then
      (iput s5.1 (x.2.2.2.1.getD s5.2.1.toNat zIns)).bind fun r7 =>
      rec6 (r7.1, IntKind.i64.wrap (s5.2.1 + 1), ())
    else none
  else 
    (put s5.1 x.2.2.2.2.1).bind fun r8 =>
    (put r8.1 x.2.2.2.2.2.1).bind fun r9 =>
    (putNums r9.1 x.2.2.2.2.2.2.1).bind fun r10 =>
    some (r10.1, ())
def putMethodN (fuel : Nat) (b : List Int) (x : Mt) : Option (List Int × Unit) :=
  (putTypes b x.1).bind fun r1 =>
  (putTypes r1.1 x.2.1).bind fun r2 =>
  (putType r2.1 x.2.2.1).bind fun r3 =>
  (put r3.1 (x.2.2.2.1.length : Int)).bind fun r4 =>
  loopF (putMethodL1 x) fuel (r4.1, ((0 : Int), ()))

def iencodeL1 (m : Im) (s13 : List Int × Int × Unit) (rec14 : (List Int × Int × Unit) → Option (List Int × Int × Unit)) : Option (List Int × Int × Unit) :=
  bif decide (s13.2.1 < (m.2.2.2.1.length : Int)) then
    bif decide (0 ≤ s13.2.1) && decide (s13.2.1 < m.2.2.2.1.length) then
      (putMethod s13.1 (m.2.2.2.1.getD s13.2.1.toNat zMt)).bind fun r15 =>
      rec14 (r15.1, IntKind.i64.wrap (s13.2.1 + 1), ())
    else none
  else 
    (putNums s13.1 m.2.2.2.2.1).bind fun r16 =>
    (put r16.1 m.2.2.2.2.2.1).bind fun r17 =>
    (put r17.1 m.2.2.2.2.2.2.1).bind fun r18 =>
    bif decide ((r18.1.length : Int) > 8192) then
      some (([] : List Int), ((12 : Int), ()))
    else some ((idL r18.1), ((0 : Int), ()))
def iencodeL2 (m : Im) (fuel : Nat) (s9 : List Int × Int × Unit) (rec10 : (List Int × Int × Unit) → Option (List Int × Int × Unit)) : Option (List Int × Int × Unit) :=
  bif decide (s9.2.1 < (m.2.2.1.length : Int)) then
    bif decide (0 ≤ s9.2.1) && decide (s9.2.1 < m.2.2.1.length) then
      (longN s9.1 (m.2.2.1.getD s9.2.1.toNat 0)).bind fun r11 =>
      rec10 (r11.1, IntKind.i64.wrap (s9.2.1 + 1), ())
    else none
  else 
    (put s9.1 (m.2.2.2.1.length : Int)).bind fun r12 =>
    loopF (iencodeL1 m) fuel (r12.1, ((0 : Int), ()))
def iencodeL3 (m : Im) (fuel : Nat) (s2 : List Int × Int × Unit) (rec3 : (List Int × Int × Unit) → Option (List Int × Int × Unit)) : Option (List Int × Int × Unit) :=
  bif decide (s2.2.1 < (m.1.length : Int)) then
    bif decide (0 ≤ s2.2.1) && decide (s2.2.1 < m.1.length) then
      (put s2.1 (IntKind.i64.wrap (((m.1.getD s2.2.1.toNat zCl).1) + 1))).bind fun r4 =>
      (putTypes r4.1 (m.1.getD s2.2.1.toNat zCl).2.1).bind fun r5 =>
      (putNums r5.1 (m.1.getD s2.2.1.toNat zCl).2.2.1).bind fun r6 =>
      rec3 (r6.1, IntKind.i64.wrap (s2.2.1 + 1), ())
    else none
  else 
    (putTypes s2.1 m.2.1).bind fun r7 =>
    (put r7.1 (m.2.2.1.length : Int)).bind fun r8 =>
    loopF (iencodeL2 m fuel) fuel (r8.1, ((0 : Int), ()))
def iencodeN (fuel : Nat) (m : Im) : Option (List Int × Int × Unit) :=
  bif !(ifits m) then
    some (([] : List Int), ((1 : Int), ()))
  else 
    (put ([112, 108, 105, 109] : List Int) (m.1.length : Int)).bind fun r1 =>
    loopF (iencodeL3 m fuel) fuel (r1.1, ((0 : Int), ()))

def getTypeN (r : List Int × Bool × Unit) : Option (Tp × (List Int × Bool × Unit) × Unit) :=
  (getN r (5 : Int)).bind fun r1 =>
  bif r1.1 == 3 then
    (getN r1.2.1 (7 : Int)).bind fun r2 =>
    some ((r1.1, r2.1, ()), r2.2.1, ())
  else some ((r1.1, ((0 : Int), ())), r1.2.1, ())

def getTypesL1 (r1 : Int × (List Int × Bool × Unit) × Unit) (s2 : List Tp × Int × (List Int × Bool × Unit) × Unit) (rec3 : (List Tp × Int × (List Int × Bool × Unit) × Unit) → Option (List Tp × (List Int × Bool × Unit) × Unit)) : Option (List Tp × (List Int × Bool × Unit) × Unit) :=
  bif decide (s2.2.1 < r1.1) then
    (getType s2.2.2.1).bind fun r4 =>
    bif decide (s2.1.length + [r4.1].length < rowMax) then
      rec3 (s2.1 ++ [r4.1], IntKind.i64.wrap (s2.2.1 + 1), r4.2.1, ())
    else none
  else some ((idL s2.1), s2.2.2.1, ())
def getTypesN (fuel : Nat) (r : List Int × Bool × Unit) (m : Int) : Option (List Tp × (List Int × Bool × Unit) × Unit) :=
  (getN r m).bind fun r1 =>
  loopF (getTypesL1 r1) fuel (([] : List Tp), ((0 : Int), r1.2.1, ()))

def getNumsL1 (m : Int) (r1 : Int × (List Int × Bool × Unit) × Unit) (s2 : List Int × Int × (List Int × Bool × Unit) × Unit) (rec3 : (List Int × Int × (List Int × Bool × Unit) × Unit) → Option (List Int × (List Int × Bool × Unit) × Unit)) : Option (List Int × (List Int × Bool × Unit) × Unit) :=
  bif decide (s2.2.1 < r1.1) then
    (getN s2.2.2.1 m).bind fun r4 =>
    bif decide (s2.1.length + [r4.1].length < rowMax) then
      rec3 (s2.1 ++ [r4.1], IntKind.i64.wrap (s2.2.1 + 1), r4.2.1, ())
    else none
  else some ((idL s2.1), s2.2.2.1, ())
def getNumsN (fuel : Nat) (r : List Int × Bool × Unit) (c : Int) (m : Int) : Option (List Int × (List Int × Bool × Unit) × Unit) :=
  (getN r c).bind fun r1 =>
  loopF (getNumsL1 m r1) fuel (([] : List Int), ((0 : Int), r1.2.1, ()))

def getMethodL1 (r4 : Int × (List Int × Bool × Unit) × Unit) (s5 : Int × (List Int × Bool × Unit) × (List Tp × List Tp × Int × Int × List Ins × Int × Int × List Int × Unit) × Unit) (rec6 : (Int × (List Int × Bool × Unit) × (List Tp × List Tp × Int × Int × List Ins × Int × Int × List Int × Unit) × Unit) → Option (Mt × (List Int × Bool × Unit) × Unit)) : Option (Mt × (List Int × Bool × Unit) × Unit) :=
  bif decide (s5.1 < r4.1) then
    (igetN s5.2.1).bind fun r7 =>
    bif decide (s5.2.2.1.2.2.2.2.1.length + [r7.1].length < rowMax) then
      rec6 (IntKind.i64.wrap (s5.1 + 1), r7.2.1, (s5.2.2.1.1, s5.2.2.1.2.1, s5.2.2.1.2.2.1, s5.2.2.1.2.2.2.1, s5.2.2.1.2.2.2.2.1 ++ [r7.1], s5.2.2.1.2.2.2.2.2), ())
    else none
  else 
    (getN s5.2.1 (8 : Int)).bind fun r8 =>
    (getN r8.2.1 (4096 : Int)).bind fun r9 =>
    (getNums r9.2.1 (64 : Int) (4096 : Int)).bind fun r10 =>
    some ((s5.2.2.1.1, s5.2.2.1.2.1, (s5.2.2.1.2.2.1, s5.2.2.1.2.2.2.1, ()), (idL s5.2.2.1.2.2.2.2.1), r8.1, r9.1, r10.1, ()), r10.2.1, ())
def getMethodN (fuel : Nat) (r : List Int × Bool × Unit) : Option (Mt × (List Int × Bool × Unit) × Unit) :=
  (getTypes r (4 : Int)).bind fun r1 =>
  (getTypes r1.2.1 (8 : Int)).bind fun r2 =>
  (getType r2.2.1).bind fun r3 =>
  (getN r3.2.1 (64 : Int)).bind fun r4 =>
  loopF (getMethodL1 r4) fuel ((0 : Int), r4.2.1, (r1.1, r2.1, r3.1.1, r3.1.2.1, (([] : List Ins), ((0 : Int), ((0 : Int), (([] : List Int), ()))))), ())

def idecodeL1 (r12 : Int × (List Int × Bool × Unit) × Unit) (s13 : Int × (List Int × Bool × Unit) × (List Cl × List Tp × List Int × List Mt × List Int × Int × Int × Unit) × Unit) (rec14 : (Int × (List Int × Bool × Unit) × (List Cl × List Tp × List Int × List Mt × List Int × Int × Int × Unit) × Unit) → Option (Im × Int × Unit)) : Option (Im × Int × Unit) :=
  bif decide (s13.1 < r12.1) then
    (getMethod s13.2.1).bind fun r15 =>
    bif decide (s13.2.2.1.2.2.2.1.length + [r15.1].length < rowMax) then
      rec14 (IntKind.i64.wrap (s13.1 + 1), r15.2.1, (s13.2.2.1.1, s13.2.2.1.2.1, s13.2.2.1.2.2.1, s13.2.2.1.2.2.2.1 ++ [r15.1], s13.2.2.1.2.2.2.2), ())
    else none
  else 
    (getNums s13.2.1 (12 : Int) (11 : Int)).bind fun r16 =>
    (getN r16.2.1 (4096 : Int)).bind fun r17 =>
    (getN r17.2.1 (4096 : Int)).bind fun r18 =>
    (finN r18.2.1).bind fun r19 =>
    bif !r19.1 then
      some ((([] : List Cl), (([] : List Tp), (([] : List Int), (([] : List Mt), (([] : List Int), ((0 : Int), ((0 : Int), ()))))))), ((2 : Int), ()))
    else bif !(ifits (s13.2.2.1.1, s13.2.2.1.2.1, s13.2.2.1.2.2.1, s13.2.2.1.2.2.2.1, r16.1, r17.1, r18.1, ())) then
      some ((([] : List Cl), (([] : List Tp), (([] : List Int), (([] : List Mt), (([] : List Int), ((0 : Int), ((0 : Int), ()))))))), ((2 : Int), ()))
    else 
      (icopy (s13.2.2.1.1, s13.2.2.1.2.1, s13.2.2.1.2.2.1, s13.2.2.1.2.2.2.1, r16.1, r17.1, r18.1, ())).bind fun r20 =>
      some (r20.1, ((0 : Int), ()))
def idecodeL2 (fuel : Nat) (r8 : Int × (List Int × Bool × Unit) × Unit) (s9 : Int × (List Int × Bool × Unit) × (List Cl × List Tp × List Int × List Mt × List Int × Int × Int × Unit) × Unit) (rec10 : (Int × (List Int × Bool × Unit) × (List Cl × List Tp × List Int × List Mt × List Int × Int × Int × Unit) × Unit) → Option (Im × Int × Unit)) : Option (Im × Int × Unit) :=
  bif decide (s9.1 < r8.1) then
    (glongN s9.2.1).bind fun r11 =>
    bif decide (s9.2.2.1.2.2.1.length + [r11.1].length < rowMax) then
      rec10 (IntKind.i64.wrap (s9.1 + 1), r11.2.1, (s9.2.2.1.1, s9.2.2.1.2.1, s9.2.2.1.2.2.1 ++ [r11.1], s9.2.2.1.2.2.2), ())
    else none
  else 
    (getN s9.2.1 (12 : Int)).bind fun r12 =>
    loopF (idecodeL1 r12) fuel ((0 : Int), r12.2.1, s9.2.2.1, ())
def idecodeL3 (fuel : Nat) (r1 : Int × (List Int × Bool × Unit) × Unit) (s2 : Int × (List Int × Bool × Unit) × (List Cl × List Tp × List Int × List Mt × List Int × Int × Int × Unit) × Unit) (rec3 : (Int × (List Int × Bool × Unit) × (List Cl × List Tp × List Int × List Mt × List Int × Int × Int × Unit) × Unit) → Option (Im × Int × Unit)) : Option (Im × Int × Unit) :=
  bif decide (s2.1 < r1.1) then
    (getN s2.2.1 (8 : Int)).bind fun r4 =>
    (getTypes r4.2.1 (8 : Int)).bind fun r5 =>
    (getNums r5.2.1 (4 : Int) (11 : Int)).bind fun r6 =>
    bif decide (s2.2.2.1.1.length + [(IntKind.i64.wrap (r4.1 - 1), r5.1, r6.1, ())].length < rowMax) then
      rec3 (IntKind.i64.wrap (s2.1 + 1), r6.2.1, (s2.2.2.1.1 ++ [(IntKind.i64.wrap (r4.1 - 1), r5.1, r6.1, ())], s2.2.2.1.2), ())
    else none
  else 
    (getTypes s2.2.1 (8 : Int)).bind fun r7 =>
    (getN r7.2.1 (16 : Int)).bind fun r8 =>
    loopF (idecodeL2 fuel r8) fuel ((0 : Int), r8.2.1, (s2.2.2.1.1, r7.1, s2.2.2.1.2.2), ())
def idecodeN (fuel : Nat) (b : List Int) : Option (Im × Int × Unit) :=
  bif decide ((b.length : Int) > 8192) then
    some ((([] : List Cl), (([] : List Tp), (([] : List Int), (([] : List Mt), (([] : List Int), ((0 : Int), ((0 : Int), ()))))))), ((2 : Int), ()))
  else bif decide ((b.length : Int) < 4) then
    some ((([] : List Cl), (([] : List Tp), (([] : List Int), (([] : List Mt), (([] : List Int), ((0 : Int), ((0 : Int), ()))))))), ((2 : Int), ()))
  else bif decide ((4 : Int) ≤ (b.length : Int)) then
    bif !((strOfNums ((b.take 4).drop 0)).toList == (⟨#[112, 108, 105, 109]⟩ : ByteArray).toList) then
      some ((([] : List Cl), (([] : List Tp), (([] : List Int), (([] : List Mt), (([] : List Int), ((0 : Int), ((0 : Int), ()))))))), ((2 : Int), ()))
    else bif decide ((4 : Int) ≤ (b.length : Int)) && decide ((b.length : Int) ≤ (b.length : Int)) then
      (getN (newN ((b.take b.length).drop 4)) (8 : Int)).bind fun r1 =>
      loopF (idecodeL3 fuel r1) fuel ((0 : Int), r1.2.1, ((([] : List Cl), (([] : List Tp), (([] : List Int), (([] : List Mt), (([] : List Int), ((0 : Int), ((0 : Int), ()))))))), ()))
    else none
  else none

def sameClassN (a : Cl) (b : Cl) : Option (Bool × Unit) :=
  bif a.1 == b.1 then
    bif (eqL a.2.1 b.2.1) then
      some ((eqL a.2.2.1 b.2.2.1), ())
    else some (false, ())
  else some (false, ())

def sameMethodN (a : Mt) (b : Mt) : Option (Bool × Unit) :=
  bif (eqL a.1 b.1) then
    bif (eqL a.2.1 b.2.1) then
      bif (a.2.2.1.1 == b.2.2.1.1) && ((a.2.2.1.2.1 == b.2.2.1.2.1) && true) then
        bif (eqL a.2.2.2.1 b.2.2.2.1) then
          bif a.2.2.2.2.1 == b.2.2.2.2.1 then
            bif a.2.2.2.2.2.1 == b.2.2.2.2.2.1 then
              some ((eqL a.2.2.2.2.2.2.1 b.2.2.2.2.2.2.1), ())
            else some (false, ())
          else some (false, ())
        else some (false, ())
      else some (false, ())
    else some (false, ())
  else some (false, ())

def eqfCLen (a : List Cl) (b : List Cl) (_c : Unit) : Prop := (a.length ≤ lenMax ∧ ∀ x1 : Cl, x1 ∈ a → (True ∧ ((x1.2.1.length ≤ lenMax ∧ ∀ x2 : Tp, x2 ∈ x1.2.1 → (True ∧ (True ∧ True))) ∧ ((x1.2.2.1.length ≤ lenMax ∧ ∀ x2 : Int, x2 ∈ x1.2.2.1 → True) ∧ True)))) ∧ (b.length ≤ lenMax ∧ ∀ x1 : Cl, x1 ∈ b → (True ∧ ((x1.2.1.length ≤ lenMax ∧ ∀ x2 : Tp, x2 ∈ x1.2.1 → (True ∧ (True ∧ True))) ∧ ((x1.2.2.1.length ≤ lenMax ∧ ∀ x2 : Int, x2 ∈ x1.2.2.1 → True) ∧ True)))) ∧ True ∧ True
def eqfCL1 (a : List Cl) (b : List Cl) (s1 : Int × Unit) (rec2 : (Int × Unit) → Option (Bool × Unit)) : Option (Bool × Unit) :=
  bif decide (s1.1 < (a.length : Int)) then
    bif decide (0 ≤ s1.1) && decide (s1.1 < a.length) then
      bif decide (0 ≤ s1.1) && decide (s1.1 < b.length) then
        bif !(sameClass (a.getD s1.1.toNat zCl) (b.getD s1.1.toNat zCl)) then
          some (false, ())
        else rec2 (IntKind.i64.wrap (s1.1 + 1), ())
      else none
    else none
  else some (true, ())
def eqfCN (fuel : Nat) (a : List Cl) (b : List Cl) (_c : Unit) : Option (Bool × Unit) :=
  bif (a.length : Int) != (b.length : Int) then
    some (false, ())
  else loopF (eqfCL1 a b) fuel ((0 : Int), ())

def eqfMLen (a : List Mt) (b : List Mt) (_c : Unit) : Prop := (a.length ≤ lenMax ∧ ∀ x1 : Mt, x1 ∈ a → ((x1.1.length ≤ lenMax ∧ ∀ x2 : Tp, x2 ∈ x1.1 → (True ∧ (True ∧ True))) ∧ ((x1.2.1.length ≤ lenMax ∧ ∀ x2 : Tp, x2 ∈ x1.2.1 → (True ∧ (True ∧ True))) ∧ ((True ∧ (True ∧ True)) ∧ ((x1.2.2.2.1.length ≤ lenMax ∧ ∀ x2 : Ins, x2 ∈ x1.2.2.2.1 → (True ∧ (True ∧ (True ∧ True)))) ∧ (True ∧ (True ∧ ((x1.2.2.2.2.2.2.1.length ≤ lenMax ∧ ∀ x2 : Int, x2 ∈ x1.2.2.2.2.2.2.1 → True) ∧ True)))))))) ∧ (b.length ≤ lenMax ∧ ∀ x1 : Mt, x1 ∈ b → ((x1.1.length ≤ lenMax ∧ ∀ x2 : Tp, x2 ∈ x1.1 → (True ∧ (True ∧ True))) ∧ ((x1.2.1.length ≤ lenMax ∧ ∀ x2 : Tp, x2 ∈ x1.2.1 → (True ∧ (True ∧ True))) ∧ ((True ∧ (True ∧ True)) ∧ ((x1.2.2.2.1.length ≤ lenMax ∧ ∀ x2 : Ins, x2 ∈ x1.2.2.2.1 → (True ∧ (True ∧ (True ∧ True)))) ∧ (True ∧ (True ∧ ((x1.2.2.2.2.2.2.1.length ≤ lenMax ∧ ∀ x2 : Int, x2 ∈ x1.2.2.2.2.2.2.1 → True) ∧ True)))))))) ∧ True ∧ True
def eqfML1 (a : List Mt) (b : List Mt) (s1 : Int × Unit) (rec2 : (Int × Unit) → Option (Bool × Unit)) : Option (Bool × Unit) :=
  bif decide (s1.1 < (a.length : Int)) then
    bif decide (0 ≤ s1.1) && decide (s1.1 < a.length) then
      bif decide (0 ≤ s1.1) && decide (s1.1 < b.length) then
        bif !(sameMethod (a.getD s1.1.toNat zMt) (b.getD s1.1.toNat zMt)) then
          some (false, ())
        else rec2 (IntKind.i64.wrap (s1.1 + 1), ())
      else none
    else none
  else some (true, ())
def eqfMN (fuel : Nat) (a : List Mt) (b : List Mt) (_c : Unit) : Option (Bool × Unit) :=
  bif (a.length : Int) != (b.length : Int) then
    some (false, ())
  else loopF (eqfML1 a b) fuel ((0 : Int), ())

def isameN (a : Im) (b : Im) : Option (Bool × Unit) :=
  (bif (eqfC a.1 b.1 ()) then
    some (.inl ((eqfM a.2.2.2.1 b.2.2.2.1 ()), ()))
  else some (.inl (false, ())) : Option ((Bool × Unit) ⊕ (Bool × Unit))).bind fun q => match q with
  | .inr r2 => some r2
  | .inl s1 =>
    bif s1.1 then
      bif (eqL a.2.1 b.2.1) then
        bif (eqL a.2.2.1 b.2.2.1) then
          bif (eqL a.2.2.2.2.1 b.2.2.2.2.1) then
            bif a.2.2.2.2.2.1 == b.2.2.2.2.2.1 then
              some (a.2.2.2.2.2.2.1 == b.2.2.2.2.2.2.1, ())
            else some (false, ())
          else some (false, ())
        else some (false, ())
      else some (false, ())
    else some (false, ())

def icopyL1 (m : Im) (s8 : Int × (List Cl × List Tp × List Int × List Mt × List Int × Int × Int × Unit) × Unit) (rec9 : (Int × (List Cl × List Tp × List Int × List Mt × List Int × Int × Int × Unit) × Unit) → Option (Im × Unit)) : Option (Im × Unit) :=
  bif decide (s8.1 < (m.2.2.2.1.length : Int)) then
    bif decide (0 ≤ s8.1) && decide (s8.1 < m.2.2.2.1.length) then
      (anTN (m.2.2.2.1.getD s8.1.toNat zMt).1).bind fun r10 =>
      (anTN (m.2.2.2.1.getD s8.1.toNat zMt).2.1).bind fun r11 =>
      (anXN (m.2.2.2.1.getD s8.1.toNat zMt).2.2.2.1).bind fun r12 =>
      (anIN (m.2.2.2.1.getD s8.1.toNat zMt).2.2.2.2.2.2.1).bind fun r13 =>
      bif decide (s8.2.1.2.2.2.1.length + [(r10.1, r11.1, (m.2.2.2.1.getD s8.1.toNat zMt).2.2.1, r12.1, (m.2.2.2.1.getD s8.1.toNat zMt).2.2.2.2.1, (m.2.2.2.1.getD s8.1.toNat zMt).2.2.2.2.2.1, r13.1, ())].length < rowMax) then
        rec9 (IntKind.i64.wrap (s8.1 + 1), (s8.2.1.1, s8.2.1.2.1, s8.2.1.2.2.1, s8.2.1.2.2.2.1 ++ [(r10.1, r11.1, (m.2.2.2.1.getD s8.1.toNat zMt).2.2.1, r12.1, (m.2.2.2.1.getD s8.1.toNat zMt).2.2.2.2.1, (m.2.2.2.1.getD s8.1.toNat zMt).2.2.2.2.2.1, r13.1, ())], s8.2.1.2.2.2.2), ())
      else none
    else none
  else some (((idL s8.2.1.1), s8.2.1.2.1, s8.2.1.2.2.1, (idL s8.2.1.2.2.2.1), s8.2.1.2.2.2.2), ())
def icopyL2 (m : Im) (fuel : Nat) (s4 : Int × (List Cl × List Tp × List Int × List Mt × List Int × Int × Int × Unit) × Unit) (rec5 : (Int × (List Cl × List Tp × List Int × List Mt × List Int × Int × Int × Unit) × Unit) → Option (Im × Unit)) : Option (Im × Unit) :=
  bif decide (s4.1 < (m.1.length : Int)) then
    bif decide (0 ≤ s4.1) && decide (s4.1 < m.1.length) then
      (anTN (m.1.getD s4.1.toNat zCl).2.1).bind fun r6 =>
      (anIN (m.1.getD s4.1.toNat zCl).2.2.1).bind fun r7 =>
      bif decide (s4.2.1.1.length + [((m.1.getD s4.1.toNat zCl).1, r6.1, r7.1, ())].length < rowMax) then
        rec5 (IntKind.i64.wrap (s4.1 + 1), (s4.2.1.1 ++ [((m.1.getD s4.1.toNat zCl).1, r6.1, r7.1, ())], s4.2.1.2), ())
      else none
    else none
  else loopF (icopyL1 m) fuel ((0 : Int), s4.2.1, ())
def icopyN (fuel : Nat) (m : Im) : Option (Im × Unit) :=
  (anTN m.2.1).bind fun r1 =>
  (anJN m.2.2.1).bind fun r2 =>
  (anIN m.2.2.2.2.1).bind fun r3 =>
  loopF (icopyL2 m fuel) fuel ((0 : Int), ((([] : List Cl), r1.1, r2.1, (([] : List Mt), r3.1, m.2.2.2.2.2)), ()))

def kgoodN (t : Tp) (n : Int) : Option (Bool × Unit) :=
  (bif t.1 == 1 then
    some (.inl (true, ()))
  else some (.inl (t.1 == 2, ())) : Option ((Bool × Unit) ⊕ (Bool × Unit))).bind fun q => match q with
  | .inr r2 => some r2
  | .inl s1 =>
    bif s1.1 then
      some (t.2.1 == 0, ())
    else bif t.1 == 3 then
      bif decide (t.2.1 ≥ 0) then
        some (decide (t.2.1 < n), ())
      else some (false, ())
    else some (false, ())

def kisrefN (t : Tp) : Option (Bool × Unit) :=
  bif t.1 == 2 then
    some (true, ())
  else bif t.1 == 3 then
    some (true, ())
  else some (t.1 == 4, ())

def kupN (l : List Cl) (c : Int) : Option (Int × Unit) :=
  bif decide (c < 0) then
    some ((-1 : Int), ())
  else bif decide (c ≥ (l.length : Int)) then
    some ((-1 : Int), ())
  else bif decide (0 ≤ c) && decide (c < l.length) then
    bif decide ((l.getD c.toNat zCl).1 ≥ c) then
      some ((-1 : Int), ())
    else bif decide (0 ≤ c) && decide (c < l.length) then
      some ((l.getD c.toNat zCl).1, ())
    else none
  else none

def kbelowL1 (l : List Cl) (b : Int) (s1 : Int × Unit) (rec2 : (Int × Unit) → Option (Bool × Unit)) : Option (Bool × Unit) :=
  bif decide (s1.1 ≥ 0) then
    bif s1.1 == b then
      some (true, ())
    else rec2 ((kup l s1.1), ())
  else some (false, ())
def kbelowN (fuel : Nat) (l : List Cl) (a : Int) (b : Int) : Option (Bool × Unit) :=
  bif decide (b < 0) then
    some (false, ())
  else bif decide (b ≥ (l.length : Int)) then
    some (false, ())
  else bif decide (a ≥ (l.length : Int)) then
    some (false, ())
  else loopF (kbelowL1 l b) fuel (a, ())

def ksubN (l : List Cl) (a : Tp) (b : Tp) : Option (Bool × Unit) :=
  bif a.1 == 4 then
    some ((kisref b), ())
  else bif a.1 == 3 then
    bif b.1 == 3 then
      some ((kbelow l a.2.1 b.2.1), ())
    else bif (a.1 == b.1) && ((a.2.1 == b.2.1) && true) then
      bif a.1 == 1 then
        some (true, ())
      else some (a.1 == 2, ())
    else some (false, ())
  else bif (a.1 == b.1) && ((a.2.1 == b.2.1) && true) then
    bif a.1 == 1 then
      some (true, ())
    else some (a.1 == 2, ())
  else some (false, ())

def raboveL1 (l : List Cl) (s1 : Int × List Int × Unit) (rec2 : (Int × List Int × Unit) → Option (List Int × Unit)) : Option (List Int × Unit) :=
  bif decide (s1.1 ≥ 0) then
    bif decide (s1.1 < (l.length : Int)) then
      bif decide (s1.2.1.length + [s1.1].length < rowMax) then
        bif decide (0 ≤ s1.1) && decide (s1.1 < l.length) then
          bif decide ((l.getD s1.1.toNat zCl).1 ≥ s1.1) then
            rec2 ((-1 : Int), s1.2.1 ++ [s1.1], ())
          else rec2 ((l.getD s1.1.toNat zCl).1, s1.2.1 ++ [s1.1], ())
        else none
      else none
    else some (s1.2.1, ())
  else some (s1.2.1, ())
def raboveN (fuel : Nat) (l : List Cl) (c : Int) : Option (List Int × Unit) :=
  loopF (raboveL1 l) fuel (c, (([] : List Int), ()))

def risrefN (t : Tp) : Option (Bool × Unit) :=
  bif t.1 == 2 then
    some (true, ())
  else bif t.1 == 3 then
    some (true, ())
  else some (t.1 == 4, ())

def rgoodN (t : Tp) (n : Int) : Option (Bool × Unit) :=
  bif t.1 == 1 then
    bif t.2.1 == 0 then
      some (true, ())
    else bif t.1 == 3 then
      bif decide (t.2.1 ≥ 0) then
        some (decide (t.2.1 < n), ())
      else some (false, ())
    else some (false, ())
  else bif t.1 == 2 then
    bif t.2.1 == 0 then
      some (true, ())
    else bif t.1 == 3 then
      bif decide (t.2.1 ≥ 0) then
        some (decide (t.2.1 < n), ())
      else some (false, ())
    else some (false, ())
  else bif t.1 == 3 then
    bif decide (t.2.1 ≥ 0) then
      some (decide (t.2.1 < n), ())
    else some (false, ())
  else some (false, ())

def rsubN (l : List Cl) (a : Tp) (b : Tp) : Option (Bool × Unit) :=
  bif a.1 == 4 then
    some ((risref b), ())
  else bif a.1 == 3 then
    bif b.1 == 3 then
      (rabove l a.2.1).bind fun r1 =>
      (rin r1.1 b.2.1).bind fun r2 =>
      some (r2.1, ())
    else some (false, ())
  else bif a.1 == 1 then
    some ((a.1 == b.1) && ((a.2.1 == b.2.1) && true), ())
  else bif a.1 == 2 then
    some ((a.1 == b.1) && ((a.2.1 == b.2.1) && true), ())
  else some (false, ())

def rtypesLen (a : List Tp) (b : List Tp) : Prop := (a.length ≤ lenMax ∧ ∀ x1 : Tp, x1 ∈ a → (True ∧ (True ∧ True))) ∧ (b.length ≤ lenMax ∧ ∀ x1 : Tp, x1 ∈ b → (True ∧ (True ∧ True))) ∧ True
def rtypesL1 (a : List Tp) (b : List Tp) (s1 : Int × Unit) (rec2 : (Int × Unit) → Option (Bool × Unit)) : Option (Bool × Unit) :=
  bif decide (s1.1 < (a.length : Int)) then
    bif decide (0 ≤ s1.1) && decide (s1.1 < a.length) then
      bif decide (0 ≤ s1.1) && decide (s1.1 < b.length) then
        bif !((((a.getD s1.1.toNat zTp).1) == ((b.getD s1.1.toNat zTp).1)) && ((((a.getD s1.1.toNat zTp).2.1) == ((b.getD s1.1.toNat zTp).2.1)) && true)) then
          some (false, ())
        else rec2 (IntKind.i64.wrap (s1.1 + 1), ())
      else none
    else none
  else some (true, ())
def rtypesN (fuel : Nat) (a : List Tp) (b : List Tp) : Option (Bool × Unit) :=
  bif (a.length : Int) != (b.length : Int) then
    some (false, ())
  else loopF (rtypesL1 a b) fuel ((0 : Int), ())

def rintsLen (a : List Int) (b : List Int) : Prop := (a.length ≤ lenMax ∧ ∀ x1 : Int, x1 ∈ a → True) ∧ (b.length ≤ lenMax ∧ ∀ x1 : Int, x1 ∈ b → True) ∧ True
def rintsL1 (a : List Int) (b : List Int) (s1 : Int × Unit) (rec2 : (Int × Unit) → Option (Bool × Unit)) : Option (Bool × Unit) :=
  bif decide (s1.1 < (a.length : Int)) then
    bif decide (0 ≤ s1.1) && decide (s1.1 < a.length) then
      bif decide (0 ≤ s1.1) && decide (s1.1 < b.length) then
        bif (a.getD s1.1.toNat 0) != (b.getD s1.1.toNat 0) then
          some (false, ())
        else rec2 (IntKind.i64.wrap (s1.1 + 1), ())
      else none
    else none
  else some (true, ())
def rintsN (fuel : Nat) (a : List Int) (b : List Int) : Option (Bool × Unit) :=
  bif (a.length : Int) != (b.length : Int) then
    some (false, ())
  else loopF (rintsL1 a b) fuel ((0 : Int), ())

def r5inN (n : Int) (a : Int) (b : Int) : Option (Bool × Unit) :=
  bif decide (n ≥ a) then
    some (decide (n ≤ b), ())
  else some (false, ())

def r5listLen (l : List Int) (_c : Int) (_m : Int) : Prop := (l.length ≤ lenMax ∧ ∀ x1 : Int, x1 ∈ l → True) ∧ True ∧ True ∧ True
def r5listL1 (l : List Int) (m : Int) (s1 : Int × Unit) (rec2 : (Int × Unit) → Option (Bool × Unit)) : Option (Bool × Unit) :=
  bif decide (s1.1 < (l.length : Int)) then
    bif decide (0 ≤ s1.1) && decide (s1.1 < l.length) then
      bif !(r5in (l.getD s1.1.toNat 0) (0 : Int) m) then
        some (false, ())
      else rec2 (IntKind.i64.wrap (s1.1 + 1), ())
    else none
  else some (true, ())
def r5listN (fuel : Nat) (l : List Int) (c : Int) (m : Int) : Option (Bool × Unit) :=
  bif decide ((l.length : Int) > c) then
    some (false, ())
  else loopF (r5listL1 l m) fuel ((0 : Int), ())

def r5typN (t : Tp) : Option (Bool × Unit) :=
  bif (r5in t.1 (0 : Int) (5 : Int)) then
    bif t.2.1 == 0 then
      some (true, ())
    else bif t.1 == 3 then
      some ((r5in t.2.1 (0 : Int) (7 : Int)), ())
    else some (false, ())
  else some (false, ())

def r5typesLen (l : List Tp) (_c : Int) : Prop := (l.length ≤ lenMax ∧ ∀ x1 : Tp, x1 ∈ l → (True ∧ (True ∧ True))) ∧ True ∧ True
def r5typesL1 (l : List Tp) (s1 : Int × Unit) (rec2 : (Int × Unit) → Option (Bool × Unit)) : Option (Bool × Unit) :=
  bif decide (s1.1 < (l.length : Int)) then
    bif decide (0 ≤ s1.1) && decide (s1.1 < l.length) then
      bif !(r5typ (l.getD s1.1.toNat zTp)) then
        some (false, ())
      else rec2 (IntKind.i64.wrap (s1.1 + 1), ())
    else none
  else some (true, ())
def r5typesN (fuel : Nat) (l : List Tp) (c : Int) : Option (Bool × Unit) :=
  bif decide ((l.length : Int) > c) then
    some (false, ())
  else loopF (r5typesL1 l) fuel ((0 : Int), ())

def r5fitsLen (m : Im) : Prop := ((m.1.length ≤ lenMax ∧ ∀ x1 : Cl, x1 ∈ m.1 → (True ∧ ((x1.2.1.length ≤ lenMax ∧ ∀ x2 : Tp, x2 ∈ x1.2.1 → (True ∧ (True ∧ True))) ∧ ((x1.2.2.1.length ≤ lenMax ∧ ∀ x2 : Int, x2 ∈ x1.2.2.1 → True) ∧ True)))) ∧ ((m.2.1.length ≤ lenMax ∧ ∀ x1 : Tp, x1 ∈ m.2.1 → (True ∧ (True ∧ True))) ∧ ((m.2.2.1.length ≤ lenMax ∧ ∀ x1 : Int, x1 ∈ m.2.2.1 → True) ∧ ((m.2.2.2.1.length ≤ lenMax ∧ ∀ x1 : Mt, x1 ∈ m.2.2.2.1 → ((x1.1.length ≤ lenMax ∧ ∀ x2 : Tp, x2 ∈ x1.1 → (True ∧ (True ∧ True))) ∧ ((x1.2.1.length ≤ lenMax ∧ ∀ x2 : Tp, x2 ∈ x1.2.1 → (True ∧ (True ∧ True))) ∧ ((True ∧ (True ∧ True)) ∧ ((x1.2.2.2.1.length ≤ lenMax ∧ ∀ x2 : Ins, x2 ∈ x1.2.2.2.1 → (True ∧ (True ∧ (True ∧ True)))) ∧ (True ∧ (True ∧ ((x1.2.2.2.2.2.2.1.length ≤ lenMax ∧ ∀ x2 : Int, x2 ∈ x1.2.2.2.2.2.2.1 → True) ∧ True)))))))) ∧ ((m.2.2.2.2.1.length ≤ lenMax ∧ ∀ x1 : Int, x1 ∈ m.2.2.2.2.1 → True) ∧ (True ∧ (True ∧ True))))))) ∧ True
def r5fitsL1 (m : Im) (s3 : Int × Unit) (rec4 : (Int × Unit) → Option (Bool × Unit)) (s5 : Int × Unit) (rec6 : (Int × Unit) → Option (Bool × Unit)) : Option (Bool × Unit) :=
  bif decide (s5.1 < ((m.2.2.2.1.getD s3.1.toNat zMt).2.2.2.1.length : Int)) then
    bif decide (0 ≤ s5.1) && decide (s5.1 < (m.2.2.2.1.getD s3.1.toNat zMt).2.2.2.1.length) then
      bif !(rinstr ((m.2.2.2.1.getD s3.1.toNat zMt).2.2.2.1.getD s5.1.toNat zIns)) then
        some (false, ())
      else rec6 (IntKind.i64.wrap (s5.1 + 1), ())
    else none
  else rec4 (IntKind.i64.wrap (s3.1 + 1), ())
def r5fitsL2 (m : Im) (fuel : Nat) (s3 : Int × Unit) (rec4 : (Int × Unit) → Option (Bool × Unit)) : Option (Bool × Unit) :=
  bif decide (s3.1 < (m.2.2.2.1.length : Int)) then
    bif decide (0 ≤ s3.1) && decide (s3.1 < m.2.2.2.1.length) then
      bif !(r5types (m.2.2.2.1.getD s3.1.toNat zMt).1 (4 : Int)) then
        some (false, ())
      else bif !(r5types (m.2.2.2.1.getD s3.1.toNat zMt).2.1 (8 : Int)) then
        some (false, ())
      else bif !(r5typ (m.2.2.2.1.getD s3.1.toNat zMt).2.2.1) then
        some (false, ())
      else bif decide (((m.2.2.2.1.getD s3.1.toNat zMt).2.2.2.1.length : Int) > 64) then
        some (false, ())
      else bif !(r5in (m.2.2.2.1.getD s3.1.toNat zMt).2.2.2.2.1 (0 : Int) (8 : Int)) then
        some (false, ())
      else bif !(r5in (m.2.2.2.1.getD s3.1.toNat zMt).2.2.2.2.2.1 (0 : Int) (4096 : Int)) then
        some (false, ())
      else bif !(r5list (m.2.2.2.1.getD s3.1.toNat zMt).2.2.2.2.2.2.1 (64 : Int) (4096 : Int)) then
        some (false, ())
      else loopF (r5fitsL1 m s3 rec4) fuel ((0 : Int), ())
    else none
  else some (true, ())
def r5fitsL3 (m : Im) (fuel : Nat) (s1 : Int × Unit) (rec2 : (Int × Unit) → Option (Bool × Unit)) : Option (Bool × Unit) :=
  bif decide (s1.1 < (m.1.length : Int)) then
    bif decide (0 ≤ s1.1) && decide (s1.1 < m.1.length) then
      bif !(r5in (m.1.getD s1.1.toNat zCl).1 (-1 : Int) (7 : Int)) then
        some (false, ())
      else bif !(r5types (m.1.getD s1.1.toNat zCl).2.1 (8 : Int)) then
        some (false, ())
      else bif !(r5list (m.1.getD s1.1.toNat zCl).2.2.1 (4 : Int) (11 : Int)) then
        some (false, ())
      else rec2 (IntKind.i64.wrap (s1.1 + 1), ())
    else none
  else loopF (r5fitsL2 m fuel) fuel ((0 : Int), ())
def r5fitsN (fuel : Nat) (m : Im) : Option (Bool × Unit) :=
  bif decide ((m.1.length : Int) > 8) then
    some (false, ())
  else bif decide ((m.2.2.1.length : Int) > 16) then
    some (false, ())
  else bif decide ((m.2.2.2.1.length : Int) > 12) then
    some (false, ())
  else bif !(r5types m.2.1 (8 : Int)) then
    some (false, ())
  else bif !(r5list m.2.2.2.2.1 (12 : Int) (11 : Int)) then
    some (false, ())
  else bif !(r5in m.2.2.2.2.2.1 (0 : Int) (4096 : Int)) then
    some (false, ())
  else bif !(r5in m.2.2.2.2.2.2.1 (0 : Int) (4096 : Int)) then
    some (false, ())
  else loopF (r5fitsL3 m fuel) fuel ((0 : Int), ())

def r5numsL1 (l : List Int) (s2 : List Int × Int × Unit) (rec3 : (List Int × Int × Unit) → Option (List Int × Unit)) : Option (List Int × Unit) :=
  bif decide (s2.2.1 < (l.length : Int)) then
    bif decide (0 ≤ s2.2.1) && decide (s2.2.1 < l.length) then
      (rbytes (l.getD s2.2.1.toNat 0)).bind fun r4 =>
      bif decide (s2.1.length + r4.1.length < rowMax) then
        rec3 (s2.1 ++ r4.1, IntKind.i64.wrap (s2.2.1 + 1), ())
      else none
    else none
  else some (s2.1, ())
def r5numsN (fuel : Nat) (l : List Int) : Option (List Int × Unit) :=
  (rbytes (l.length : Int)).bind fun r1 =>
  loopF (r5numsL1 l) fuel (r1.1, ((0 : Int), ()))

def r5oneN (t : Tp) : Option (List Int × Unit) :=
  bif t.1 == 3 then
    (rbytes (3 : Int)).bind fun r1 =>
    (rbytes t.2.1).bind fun r2 =>
    bif decide (r1.1.length + r2.1.length < rowMax) then
      some (r1.1 ++ r2.1, ())
    else none
  else 
    (rbytes t.1).bind fun r3 =>
    some (r3.1, ())

def r5severalL1 (l : List Tp) (s2 : List Int × Int × Unit) (rec3 : (List Int × Int × Unit) → Option (List Int × Unit)) : Option (List Int × Unit) :=
  bif decide (s2.2.1 < (l.length : Int)) then
    bif decide (0 ≤ s2.2.1) && decide (s2.2.1 < l.length) then
      (r5one (l.getD s2.2.1.toNat zTp)).bind fun r4 =>
      bif decide (s2.1.length + r4.1.length < rowMax) then
        rec3 (s2.1 ++ r4.1, IntKind.i64.wrap (s2.2.1 + 1), ())
      else none
    else none
  else some (s2.1, ())
def r5severalN (fuel : Nat) (l : List Tp) : Option (List Int × Unit) :=
  (rbytes (l.length : Int)).bind fun r1 =>
  loopF (r5severalL1 l) fuel (r1.1, ((0 : Int), ()))

def r5encodeL1 (m : Im) (s13 : List Int × Int × Unit) (rec14 : (List Int × Int × Unit) → Option (List Int × Unit)) (s19 : List Int × Int × Unit) (rec20 : (List Int × Int × Unit) → Option (List Int × Unit)) : Option (List Int × Unit) :=
  bif decide (s19.2.1 < ((m.2.2.2.1.getD s13.2.1.toNat zMt).2.2.2.1.length : Int)) then
    bif decide (0 ≤ s19.2.1) && decide (s19.2.1 < (m.2.2.2.1.getD s13.2.1.toNat zMt).2.2.2.1.length) then
      (rbytes ((m.2.2.2.1.getD s13.2.1.toNat zMt).2.2.2.1.getD s19.2.1.toNat zIns).1).bind fun r21 =>
      bif decide (s19.1.length + r21.1.length < rowMax) then
        (bif decide (0 ≤ s19.2.1) && decide (s19.2.1 < (m.2.2.2.1.getD s13.2.1.toNat zMt).2.2.2.1.length) then
          bif decide ((rargs ((m.2.2.2.1.getD s13.2.1.toNat zMt).2.2.2.1.getD s19.2.1.toNat zIns).1) > 0) then
            bif decide (0 ≤ s19.2.1) && decide (s19.2.1 < (m.2.2.2.1.getD s13.2.1.toNat zMt).2.2.2.1.length) then
              (rbytes ((m.2.2.2.1.getD s13.2.1.toNat zMt).2.2.2.1.getD s19.2.1.toNat zIns).2.1).bind fun r24 =>
              bif decide ((s19.1 ++ r21.1).length + r24.1.length < rowMax) then
                some (.inl ((s19.1 ++ r21.1) ++ r24.1, ()))
              else none
            else none
          else some (.inl (s19.1 ++ r21.1, ()))
        else none : Option ((List Int × Unit) ⊕ (List Int × Unit))).bind fun q => match q with
        | .inr r23 => some r23
        | .inl s22 =>
          bif decide (0 ≤ s19.2.1) && decide (s19.2.1 < (m.2.2.2.1.getD s13.2.1.toNat zMt).2.2.2.1.length) then
            bif decide ((rargs ((m.2.2.2.1.getD s13.2.1.toNat zMt).2.2.2.1.getD s19.2.1.toNat zIns).1) > 1) then
              bif decide (0 ≤ s19.2.1) && decide (s19.2.1 < (m.2.2.2.1.getD s13.2.1.toNat zMt).2.2.2.1.length) then
                (rbytes ((m.2.2.2.1.getD s13.2.1.toNat zMt).2.2.2.1.getD s19.2.1.toNat zIns).2.2.1).bind fun r25 =>
                bif decide (s22.1.length + r25.1.length < rowMax) then
                  rec20 (s22.1 ++ r25.1, IntKind.i64.wrap (s19.2.1 + 1), ())
                else none
              else none
            else rec20 (s22.1, IntKind.i64.wrap (s19.2.1 + 1), ())
          else none
      else none
    else none
  else 
    (rbytes (m.2.2.2.1.getD s13.2.1.toNat zMt).2.2.2.2.1).bind fun r26 =>
    bif decide (s19.1.length + r26.1.length < rowMax) then
      (rbytes (m.2.2.2.1.getD s13.2.1.toNat zMt).2.2.2.2.2.1).bind fun r27 =>
      bif decide ((s19.1 ++ r26.1).length + r27.1.length < rowMax) then
        (r5nums (m.2.2.2.1.getD s13.2.1.toNat zMt).2.2.2.2.2.2.1).bind fun r28 =>
        bif decide (((s19.1 ++ r26.1) ++ r27.1).length + r28.1.length < rowMax) then
          rec14 (((s19.1 ++ r26.1) ++ r27.1) ++ r28.1, IntKind.i64.wrap (s13.2.1 + 1), ())
        else none
      else none
    else none
def r5encodeL2 (m : Im) (fuel : Nat) (s13 : List Int × Int × Unit) (rec14 : (List Int × Int × Unit) → Option (List Int × Unit)) : Option (List Int × Unit) :=
  bif decide (s13.2.1 < (m.2.2.2.1.length : Int)) then
    bif decide (0 ≤ s13.2.1) && decide (s13.2.1 < m.2.2.2.1.length) then
      (r5several (m.2.2.2.1.getD s13.2.1.toNat zMt).1).bind fun r15 =>
      bif decide (s13.1.length + r15.1.length < rowMax) then
        (r5several (m.2.2.2.1.getD s13.2.1.toNat zMt).2.1).bind fun r16 =>
        bif decide ((s13.1 ++ r15.1).length + r16.1.length < rowMax) then
          (r5one (m.2.2.2.1.getD s13.2.1.toNat zMt).2.2.1).bind fun r17 =>
          bif decide (((s13.1 ++ r15.1) ++ r16.1).length + r17.1.length < rowMax) then
            (rbytes ((m.2.2.2.1.getD s13.2.1.toNat zMt).2.2.2.1.length : Int)).bind fun r18 =>
            bif decide ((((s13.1 ++ r15.1) ++ r16.1) ++ r17.1).length + r18.1.length < rowMax) then
              loopF (r5encodeL1 m s13 rec14) fuel ((((s13.1 ++ r15.1) ++ r16.1) ++ r17.1) ++ r18.1, ((0 : Int), ()))
            else none
          else none
        else none
      else none
    else none
  else 
    (r5nums m.2.2.2.2.1).bind fun r29 =>
    bif decide (s13.1.length + r29.1.length < rowMax) then
      (rbytes m.2.2.2.2.2.1).bind fun r30 =>
      bif decide ((s13.1 ++ r29.1).length + r30.1.length < rowMax) then
        (rbytes m.2.2.2.2.2.2.1).bind fun r31 =>
        bif decide (((s13.1 ++ r29.1) ++ r30.1).length + r31.1.length < rowMax) then
          some (((s13.1 ++ r29.1) ++ r30.1) ++ r31.1, ())
        else none
      else none
    else none
def r5encodeL3 (m : Im) (fuel : Nat) (s9 : List Int × Int × Unit) (rec10 : (List Int × Int × Unit) → Option (List Int × Unit)) : Option (List Int × Unit) :=
  bif decide (s9.2.1 < (m.2.2.1.length : Int)) then
    bif decide (0 ≤ s9.2.1) && decide (s9.2.1 < m.2.2.1.length) then
      (rsignedN (m.2.2.1.getD s9.2.1.toNat 0)).bind fun r11 =>
      bif decide (s9.1.length + r11.1.length < rowMax) then
        rec10 (s9.1 ++ r11.1, IntKind.i64.wrap (s9.2.1 + 1), ())
      else none
    else none
  else 
    (rbytes (m.2.2.2.1.length : Int)).bind fun r12 =>
    bif decide (s9.1.length + r12.1.length < rowMax) then
      loopF (r5encodeL2 m fuel) fuel (s9.1 ++ r12.1, ((0 : Int), ()))
    else none
def r5encodeL4 (m : Im) (fuel : Nat) (s2 : List Int × Int × Unit) (rec3 : (List Int × Int × Unit) → Option (List Int × Unit)) : Option (List Int × Unit) :=
  bif decide (s2.2.1 < (m.1.length : Int)) then
    bif decide (0 ≤ s2.2.1) && decide (s2.2.1 < m.1.length) then
      (rbytes (IntKind.i64.wrap (((m.1.getD s2.2.1.toNat zCl).1) + 1))).bind fun r4 =>
      bif decide (s2.1.length + r4.1.length < rowMax) then
        bif decide (0 ≤ s2.2.1) && decide (s2.2.1 < m.1.length) then
          (r5several (m.1.getD s2.2.1.toNat zCl).2.1).bind fun r5 =>
          bif decide ((s2.1 ++ r4.1).length + r5.1.length < rowMax) then
            bif decide (0 ≤ s2.2.1) && decide (s2.2.1 < m.1.length) then
              (r5nums (m.1.getD s2.2.1.toNat zCl).2.2.1).bind fun r6 =>
              bif decide (((s2.1 ++ r4.1) ++ r5.1).length + r6.1.length < rowMax) then
                rec3 (((s2.1 ++ r4.1) ++ r5.1) ++ r6.1, IntKind.i64.wrap (s2.2.1 + 1), ())
              else none
            else none
          else none
        else none
      else none
    else none
  else 
    (r5several m.2.1).bind fun r7 =>
    bif decide (s2.1.length + r7.1.length < rowMax) then
      (rbytes (m.2.2.1.length : Int)).bind fun r8 =>
      bif decide ((s2.1 ++ r7.1).length + r8.1.length < rowMax) then
        loopF (r5encodeL3 m fuel) fuel ((s2.1 ++ r7.1) ++ r8.1, ((0 : Int), ()))
      else none
    else none
def r5encodeN (fuel : Nat) (m : Im) : Option (List Int × Unit) :=
  (rbytes (m.1.length : Int)).bind fun r1 =>
  bif decide (([112, 108, 105, 109] : List Int).length + r1.1.length < rowMax) then
    loopF (r5encodeL4 m fuel) fuel (([112, 108, 105, 109] : List Int) ++ r1.1, ((0 : Int), ()))
  else none

def r5sameLen (a : Im) (b : Im) : Prop := ((a.1.length ≤ lenMax ∧ ∀ x1 : Cl, x1 ∈ a.1 → (True ∧ ((x1.2.1.length ≤ lenMax ∧ ∀ x2 : Tp, x2 ∈ x1.2.1 → (True ∧ (True ∧ True))) ∧ ((x1.2.2.1.length ≤ lenMax ∧ ∀ x2 : Int, x2 ∈ x1.2.2.1 → True) ∧ True)))) ∧ ((a.2.1.length ≤ lenMax ∧ ∀ x1 : Tp, x1 ∈ a.2.1 → (True ∧ (True ∧ True))) ∧ ((a.2.2.1.length ≤ lenMax ∧ ∀ x1 : Int, x1 ∈ a.2.2.1 → True) ∧ ((a.2.2.2.1.length ≤ lenMax ∧ ∀ x1 : Mt, x1 ∈ a.2.2.2.1 → ((x1.1.length ≤ lenMax ∧ ∀ x2 : Tp, x2 ∈ x1.1 → (True ∧ (True ∧ True))) ∧ ((x1.2.1.length ≤ lenMax ∧ ∀ x2 : Tp, x2 ∈ x1.2.1 → (True ∧ (True ∧ True))) ∧ ((True ∧ (True ∧ True)) ∧ ((x1.2.2.2.1.length ≤ lenMax ∧ ∀ x2 : Ins, x2 ∈ x1.2.2.2.1 → (True ∧ (True ∧ (True ∧ True)))) ∧ (True ∧ (True ∧ ((x1.2.2.2.2.2.2.1.length ≤ lenMax ∧ ∀ x2 : Int, x2 ∈ x1.2.2.2.2.2.2.1 → True) ∧ True)))))))) ∧ ((a.2.2.2.2.1.length ≤ lenMax ∧ ∀ x1 : Int, x1 ∈ a.2.2.2.2.1 → True) ∧ (True ∧ (True ∧ True))))))) ∧ ((b.1.length ≤ lenMax ∧ ∀ x1 : Cl, x1 ∈ b.1 → (True ∧ ((x1.2.1.length ≤ lenMax ∧ ∀ x2 : Tp, x2 ∈ x1.2.1 → (True ∧ (True ∧ True))) ∧ ((x1.2.2.1.length ≤ lenMax ∧ ∀ x2 : Int, x2 ∈ x1.2.2.1 → True) ∧ True)))) ∧ ((b.2.1.length ≤ lenMax ∧ ∀ x1 : Tp, x1 ∈ b.2.1 → (True ∧ (True ∧ True))) ∧ ((b.2.2.1.length ≤ lenMax ∧ ∀ x1 : Int, x1 ∈ b.2.2.1 → True) ∧ ((b.2.2.2.1.length ≤ lenMax ∧ ∀ x1 : Mt, x1 ∈ b.2.2.2.1 → ((x1.1.length ≤ lenMax ∧ ∀ x2 : Tp, x2 ∈ x1.1 → (True ∧ (True ∧ True))) ∧ ((x1.2.1.length ≤ lenMax ∧ ∀ x2 : Tp, x2 ∈ x1.2.1 → (True ∧ (True ∧ True))) ∧ ((True ∧ (True ∧ True)) ∧ ((x1.2.2.2.1.length ≤ lenMax ∧ ∀ x2 : Ins, x2 ∈ x1.2.2.2.1 → (True ∧ (True ∧ (True ∧ True)))) ∧ (True ∧ (True ∧ ((x1.2.2.2.2.2.2.1.length ≤ lenMax ∧ ∀ x2 : Int, x2 ∈ x1.2.2.2.2.2.2.1 → True) ∧ True)))))))) ∧ ((b.2.2.2.2.1.length ≤ lenMax ∧ ∀ x1 : Int, x1 ∈ b.2.2.2.2.1 → True) ∧ (True ∧ (True ∧ True))))))) ∧ True
def r5sameL1 (a : Im) (b : Im) (s5 : Int × Unit) (rec6 : (Int × Unit) → Option (Bool × Unit)) (s7 : Int × Unit) (rec8 : (Int × Unit) → Option (Bool × Unit)) : Option (Bool × Unit) :=
  bif decide (s7.1 < ((a.2.2.2.1.getD s5.1.toNat zMt).2.2.2.1.length : Int)) then
    bif decide (0 ≤ s7.1) && decide (s7.1 < (a.2.2.2.1.getD s5.1.toNat zMt).2.2.2.1.length) then
      bif decide (0 ≤ s7.1) && decide (s7.1 < (b.2.2.2.1.getD s5.1.toNat zMt).2.2.2.1.length) then
        bif !(((((a.2.2.2.1.getD s5.1.toNat zMt).2.2.2.1.getD s7.1.toNat zIns).1) == (((b.2.2.2.1.getD s5.1.toNat zMt).2.2.2.1.getD s7.1.toNat zIns).1)) && (((((a.2.2.2.1.getD s5.1.toNat zMt).2.2.2.1.getD s7.1.toNat zIns).2.1) == (((b.2.2.2.1.getD s5.1.toNat zMt).2.2.2.1.getD s7.1.toNat zIns).2.1)) && (((((a.2.2.2.1.getD s5.1.toNat zMt).2.2.2.1.getD s7.1.toNat zIns).2.2.1) == (((b.2.2.2.1.getD s5.1.toNat zMt).2.2.2.1.getD s7.1.toNat zIns).2.2.1)) && true))) then
          some (false, ())
        else rec8 (IntKind.i64.wrap (s7.1 + 1), ())
      else none
    else none
  else rec6 (IntKind.i64.wrap (s5.1 + 1), ())
def r5sameL2 (a : Im) (b : Im) (fuel : Nat) (s5 : Int × Unit) (rec6 : (Int × Unit) → Option (Bool × Unit)) : Option (Bool × Unit) :=
  bif decide (s5.1 < (a.2.2.2.1.length : Int)) then
    bif decide (0 ≤ s5.1) && decide (s5.1 < a.2.2.2.1.length) then
      bif decide (0 ≤ s5.1) && decide (s5.1 < b.2.2.2.1.length) then
        bif !(rtypes (a.2.2.2.1.getD s5.1.toNat zMt).1 (b.2.2.2.1.getD s5.1.toNat zMt).1) then
          some (false, ())
        else bif !(rtypes (a.2.2.2.1.getD s5.1.toNat zMt).2.1 (b.2.2.2.1.getD s5.1.toNat zMt).2.1) then
          some (false, ())
        else bif !((((a.2.2.2.1.getD s5.1.toNat zMt).2.2.1.1) == ((b.2.2.2.1.getD s5.1.toNat zMt).2.2.1.1)) && ((((a.2.2.2.1.getD s5.1.toNat zMt).2.2.1.2.1) == ((b.2.2.2.1.getD s5.1.toNat zMt).2.2.1.2.1)) && true)) then
          some (false, ())
        else bif ((a.2.2.2.1.getD s5.1.toNat zMt).2.2.2.1.length : Int) != ((b.2.2.2.1.getD s5.1.toNat zMt).2.2.2.1.length : Int) then
          some (false, ())
        else bif ((a.2.2.2.1.getD s5.1.toNat zMt).2.2.2.2.1) != ((b.2.2.2.1.getD s5.1.toNat zMt).2.2.2.2.1) then
          some (false, ())
        else bif ((a.2.2.2.1.getD s5.1.toNat zMt).2.2.2.2.2.1) != ((b.2.2.2.1.getD s5.1.toNat zMt).2.2.2.2.2.1) then
          some (false, ())
        else bif !(rints (a.2.2.2.1.getD s5.1.toNat zMt).2.2.2.2.2.2.1 (b.2.2.2.1.getD s5.1.toNat zMt).2.2.2.2.2.2.1) then
          some (false, ())
        else loopF (r5sameL1 a b s5 rec6) fuel ((0 : Int), ())
      else none
    else none
  else some (true, ())
def r5sameL3 (a : Im) (b : Im) (fuel : Nat) (s3 : Int × Unit) (rec4 : (Int × Unit) → Option (Bool × Unit)) : Option (Bool × Unit) :=
  bif decide (s3.1 < (a.1.length : Int)) then
    bif decide (0 ≤ s3.1) && decide (s3.1 < a.1.length) then
      bif decide (0 ≤ s3.1) && decide (s3.1 < b.1.length) then
        bif ((a.1.getD s3.1.toNat zCl).1) != ((b.1.getD s3.1.toNat zCl).1) then
          some (false, ())
        else bif !(rtypes (a.1.getD s3.1.toNat zCl).2.1 (b.1.getD s3.1.toNat zCl).2.1) then
          some (false, ())
        else bif !(rints (a.1.getD s3.1.toNat zCl).2.2.1 (b.1.getD s3.1.toNat zCl).2.2.1) then
          some (false, ())
        else rec4 (IntKind.i64.wrap (s3.1 + 1), ())
      else none
    else none
  else loopF (r5sameL2 a b fuel) fuel ((0 : Int), ())
def r5sameL4 (a : Im) (b : Im) (fuel : Nat) (s1 : Int × Unit) (rec2 : (Int × Unit) → Option (Bool × Unit)) : Option (Bool × Unit) :=
  bif decide (s1.1 < (a.2.2.1.length : Int)) then
    bif decide (0 ≤ s1.1) && decide (s1.1 < a.2.2.1.length) then
      bif decide (0 ≤ s1.1) && decide (s1.1 < b.2.2.1.length) then
        bif (a.2.2.1.getD s1.1.toNat 0) != (b.2.2.1.getD s1.1.toNat 0) then
          some (false, ())
        else rec2 (IntKind.i64.wrap (s1.1 + 1), ())
      else none
    else none
  else loopF (r5sameL3 a b fuel) fuel ((0 : Int), ())
def r5sameN (fuel : Nat) (a : Im) (b : Im) : Option (Bool × Unit) :=
  bif (a.1.length : Int) != (b.1.length : Int) then
    some (false, ())
  else bif (a.2.2.2.1.length : Int) != (b.2.2.2.1.length : Int) then
    some (false, ())
  else bif (a.2.2.1.length : Int) != (b.2.2.1.length : Int) then
    some (false, ())
  else bif a.2.2.2.2.2.1 != b.2.2.2.2.2.1 then
    some (false, ())
  else bif a.2.2.2.2.2.2.1 != b.2.2.2.2.2.2.1 then
    some (false, ())
  else bif !(rtypes a.2.1 b.2.1) then
    some (false, ())
  else bif !(rints a.2.2.2.2.1 b.2.2.2.2.1) then
    some (false, ())
  else loopF (r5sameL4 a b fuel) fuel ((0 : Int), ())

def r5fieldsL1 (m : Im) (r1 : List Int × Unit) (s2 : List Tp × Int × Unit) (rec3 : (List Tp × Int × Unit) → Option (List Tp × Unit)) : Option (List Tp × Unit) :=
  bif decide (s2.2.1 ≥ 0) then
    bif decide (0 ≤ s2.2.1) && decide (s2.2.1 < r1.1.length) then
      bif decide (0 ≤ r1.1.getD s2.2.1.toNat 0) && decide (r1.1.getD s2.2.1.toNat 0 < m.1.length) then
        bif decide (s2.1.length + (m.1.getD (r1.1.getD s2.2.1.toNat 0).toNat zCl).2.1.length < rowMax) then
          rec3 (s2.1 ++ ((m.1.getD (r1.1.getD s2.2.1.toNat 0).toNat zCl).2.1), IntKind.i64.wrap (s2.2.1 - 1), ())
        else none
      else none
    else none
  else some (s2.1, ())
def r5fieldsN (fuel : Nat) (m : Im) (c : Int) : Option (List Tp × Unit) :=
  (rabove m.1 c).bind fun r1 =>
  loopF (r5fieldsL1 m r1) fuel (([] : List Tp), (IntKind.i64.wrap ((r1.1.length : Int) - 1), ()))

def r5goodLen (m : Im) (l : List Tp) : Prop := ((m.1.length ≤ lenMax ∧ ∀ x1 : Cl, x1 ∈ m.1 → (True ∧ ((x1.2.1.length ≤ lenMax ∧ ∀ x2 : Tp, x2 ∈ x1.2.1 → (True ∧ (True ∧ True))) ∧ ((x1.2.2.1.length ≤ lenMax ∧ ∀ x2 : Int, x2 ∈ x1.2.2.1 → True) ∧ True)))) ∧ ((m.2.1.length ≤ lenMax ∧ ∀ x1 : Tp, x1 ∈ m.2.1 → (True ∧ (True ∧ True))) ∧ ((m.2.2.1.length ≤ lenMax ∧ ∀ x1 : Int, x1 ∈ m.2.2.1 → True) ∧ ((m.2.2.2.1.length ≤ lenMax ∧ ∀ x1 : Mt, x1 ∈ m.2.2.2.1 → ((x1.1.length ≤ lenMax ∧ ∀ x2 : Tp, x2 ∈ x1.1 → (True ∧ (True ∧ True))) ∧ ((x1.2.1.length ≤ lenMax ∧ ∀ x2 : Tp, x2 ∈ x1.2.1 → (True ∧ (True ∧ True))) ∧ ((True ∧ (True ∧ True)) ∧ ((x1.2.2.2.1.length ≤ lenMax ∧ ∀ x2 : Ins, x2 ∈ x1.2.2.2.1 → (True ∧ (True ∧ (True ∧ True)))) ∧ (True ∧ (True ∧ ((x1.2.2.2.2.2.2.1.length ≤ lenMax ∧ ∀ x2 : Int, x2 ∈ x1.2.2.2.2.2.2.1 → True) ∧ True)))))))) ∧ ((m.2.2.2.2.1.length ≤ lenMax ∧ ∀ x1 : Int, x1 ∈ m.2.2.2.2.1 → True) ∧ (True ∧ (True ∧ True))))))) ∧ (l.length ≤ lenMax ∧ ∀ x1 : Tp, x1 ∈ l → (True ∧ (True ∧ True))) ∧ True
def r5goodL1 (m : Im) (l : List Tp) (s1 : Int × Unit) (rec2 : (Int × Unit) → Option (Bool × Unit)) : Option (Bool × Unit) :=
  bif decide (s1.1 < (l.length : Int)) then
    bif decide (0 ≤ s1.1) && decide (s1.1 < l.length) then
      bif !(rgood (l.getD s1.1.toNat zTp) (m.1.length : Int)) then
        some (false, ())
      else rec2 (IntKind.i64.wrap (s1.1 + 1), ())
    else none
  else some (true, ())
def r5goodN (fuel : Nat) (m : Im) (l : List Tp) : Option (Bool × Unit) :=
  loopF (r5goodL1 m l) fuel ((0 : Int), ())

def r5classL1 (m : Im) (c : Int) (s2 : List Int × Unit) (s4 : Int × Unit) (rec5 : (Int × Unit) → Option (Bool × Unit)) : Option (Bool × Unit) :=
  bif decide (s4.1 < ((m.1.getD c.toNat zCl).2.2.1.length : Int)) then
    (bif decide (0 ≤ s4.1) && decide (s4.1 < (m.1.getD c.toNat zCl).2.2.1.length) then
      bif decide ((m.1.getD c.toNat zCl).2.2.1.getD s4.1.toNat 0 ≥ (m.2.2.2.1.length : Int)) then
        some (.inr (false, ()))
      else bif decide (0 ≤ s4.1) && decide (s4.1 < (m.1.getD c.toNat zCl).2.2.1.length) then
        bif decide (0 ≤ (m.1.getD c.toNat zCl).2.2.1.getD s4.1.toNat 0) && decide ((m.1.getD c.toNat zCl).2.2.1.getD s4.1.toNat 0 < m.2.2.2.1.length) then
          bif ((m.2.2.2.1.getD ((m.1.getD c.toNat zCl).2.2.1.getD s4.1.toNat 0).toNat zMt).1.length : Int) == 0 then
            some (.inr (false, ()))
          else bif decide ((0 : Int) < (m.2.2.2.1.getD ((m.1.getD c.toNat zCl).2.2.1.getD s4.1.toNat 0).toNat zMt).1.length) then
            (rsub m.1 ((3 : Int), c, ()) ((m.2.2.2.1.getD ((m.1.getD c.toNat zCl).2.2.1.getD s4.1.toNat 0).toNat zMt).1.getD 0 zTp)).bind fun r8 =>
            bif !r8.1 then
              some (.inr (false, ()))
            else bif decide (s4.1 < (s2.1.length : Int)) then
              bif decide (0 ≤ s4.1) && decide (s4.1 < s2.1.length) then
                bif decide (0 ≤ s2.1.getD s4.1.toNat 0) && decide (s2.1.getD s4.1.toNat 0 < m.2.2.2.1.length) then
                  bif decide ((1 : Int) ≤ ((m.2.2.2.1.getD ((m.1.getD c.toNat zCl).2.2.1.getD s4.1.toNat 0).toNat zMt).1.length : Int)) && decide (((m.2.2.2.1.getD ((m.1.getD c.toNat zCl).2.2.1.getD s4.1.toNat 0).toNat zMt).1.length : Int) ≤ ((m.2.2.2.1.getD ((m.1.getD c.toNat zCl).2.2.1.getD s4.1.toNat 0).toNat zMt).1.length : Int)) then
                    bif decide ((1 : Int) ≤ ((m.2.2.2.1.getD (s2.1.getD s4.1.toNat 0).toNat zMt).1.length : Int)) && decide (((m.2.2.2.1.getD (s2.1.getD s4.1.toNat 0).toNat zMt).1.length : Int) ≤ ((m.2.2.2.1.getD (s2.1.getD s4.1.toNat 0).toNat zMt).1.length : Int)) then
                      bif !(rtypes (((m.2.2.2.1.getD ((m.1.getD c.toNat zCl).2.2.1.getD s4.1.toNat 0).toNat zMt).1.take ((m.2.2.2.1.getD ((m.1.getD c.toNat zCl).2.2.1.getD s4.1.toNat 0).toNat zMt).1.length : Int).toNat).drop 1) (((m.2.2.2.1.getD (s2.1.getD s4.1.toNat 0).toNat zMt).1.take ((m.2.2.2.1.getD (s2.1.getD s4.1.toNat 0).toNat zMt).1.length : Int).toNat).drop 1)) then
                        some (.inr (false, ()))
                      else bif !((((m.2.2.2.1.getD ((m.1.getD c.toNat zCl).2.2.1.getD s4.1.toNat 0).toNat zMt).2.2.1.1) == ((m.2.2.2.1.getD (s2.1.getD s4.1.toNat 0).toNat zMt).2.2.1.1)) && ((((m.2.2.2.1.getD ((m.1.getD c.toNat zCl).2.2.1.getD s4.1.toNat 0).toNat zMt).2.2.1.2.1) == ((m.2.2.2.1.getD (s2.1.getD s4.1.toNat 0).toNat zMt).2.2.1.2.1)) && true)) then
                        some (.inr (false, ()))
                      else some (.inl ())
                    else none
                  else none
                else none
              else none
            else some (.inl ())
          else none
        else none
      else none
    else none : Option (Unit ⊕ (Bool × Unit))).bind fun q => match q with
    | .inr r7 => some r7
    | .inl _ =>
      rec5 (IntKind.i64.wrap (s4.1 + 1), ())
  else some (true, ())
def r5classN (fuel : Nat) (m : Im) (c : Int) : Option (Bool × Unit) :=
  bif decide (0 ≤ c) && decide (c < m.1.length) then
    bif decide ((m.1.getD c.toNat zCl).1 ≥ c) then
      some (false, ())
    else bif !(r5good m (m.1.getD c.toNat zCl).2.1) then
      some (false, ())
    else 
      (r5fields m c).bind fun r1 =>
      bif decide ((r1.1.length : Int) > 8) then
        some (false, ())
      else 
        (bif decide ((m.1.getD c.toNat zCl).1 ≥ 0) then
          bif decide (0 ≤ (m.1.getD c.toNat zCl).1) && decide ((m.1.getD c.toNat zCl).1 < m.1.length) then
            some (.inl ((m.1.getD (m.1.getD c.toNat zCl).1.toNat zCl).2.2.1, ()))
          else none
        else some (.inl (([] : List Int), ())) : Option ((List Int × Unit) ⊕ (Bool × Unit))).bind fun q => match q with
        | .inr r3 => some r3
        | .inl s2 =>
          bif decide (((m.1.getD c.toNat zCl).2.2.1.length : Int) < (s2.1.length : Int)) then
            some (false, ())
          else loopF (r5classL1 m c s2) fuel ((0 : Int), ())
  else none

def r5namedN (m : Im) (x : Mt) (i : Ins) : Option (Bool × Unit) :=
  bif i.1 == 1 then
    some (decide (i.2.1 < (m.2.2.1.length : Int)), ())
  else 
    (bif i.1 == 3 then
      some (.inl (true, ()))
    else some (.inl (i.1 == 4, ())) : Option ((Bool × Unit) ⊕ (Bool × Unit))).bind fun q => match q with
    | .inr r2 => some r2
    | .inl s1 =>
      bif s1.1 then
        some (decide (i.2.1 < IntKind.i64.wrap ((x.1.length : Int) + (x.2.1.length : Int))), ())
      else 
        (bif i.1 == 18 then
          some (.inl (true, ()))
        else some (.inl (i.1 == 19, ())) : Option ((Bool × Unit) ⊕ (Bool × Unit))).bind fun q => match q with
        | .inr r4 => some r4
        | .inl s3 =>
          bif s3.1 then
            some (decide (i.2.1 < (x.2.2.2.1.length : Int)), ())
          else 
            (bif i.1 == 22 then
              some (.inl (true, ()))
            else some (.inl (i.1 == 34, ())) : Option ((Bool × Unit) ⊕ (Bool × Unit))).bind fun q => match q with
            | .inr r6 => some r6
            | .inl s5 =>
              bif s5.1 then
                some (decide (i.2.1 < (m.1.length : Int)), ())
              else 
                (bif i.1 == 27 then
                  some (.inl (true, ()))
                else some (.inl (i.1 == 28, ())) : Option ((Bool × Unit) ⊕ (Bool × Unit))).bind fun q => match q with
                | .inr r8 => some r8
                | .inl s7 =>
                  bif s7.1 then
                    bif decide (i.2.1 < (m.1.length : Int)) then
                      (r5fields m i.2.1).bind fun r9 =>
                      some (decide (i.2.2.1 < (r9.1.length : Int)), ())
                    else some (false, ())
                  else 
                    (bif i.1 == 29 then
                      some (.inl (true, ()))
                    else some (.inl (i.1 == 30, ())) : Option ((Bool × Unit) ⊕ (Bool × Unit))).bind fun q => match q with
                    | .inr r11 => some r11
                    | .inl s10 =>
                      bif s10.1 then
                        some (decide (i.2.1 < (m.2.1.length : Int)), ())
                      else bif i.1 == 31 then
                        some (decide (i.2.1 < (m.2.2.2.1.length : Int)), ())
                      else bif i.1 == 32 then
                        bif decide (i.2.1 < (m.1.length : Int)) then
                          bif decide (0 ≤ i.2.1) && decide (i.2.1 < m.1.length) then
                            some (decide (i.2.2.1 < ((m.1.getD i.2.1.toNat zCl).2.2.1.length : Int)), ())
                          else none
                        else some (false, ())
                      else some (true, ())

def r5methodL1 (m : Im) (x : Mt) (s3 : Int × Unit) (rec4 : (Int × Unit) → Option (Bool × Unit)) : Option (Bool × Unit) :=
  bif decide (s3.1 < (x.2.2.2.1.length : Int)) then
    bif decide (0 ≤ s3.1) && decide (s3.1 < x.2.2.2.1.length) then
      (r5named m x (x.2.2.2.1.getD s3.1.toNat zIns)).bind fun r5 =>
      bif !r5.1 then
        some (false, ())
      else rec4 (IntKind.i64.wrap (s3.1 + 1), ())
    else none
  else some (true, ())
def r5methodN (fuel : Nat) (m : Im) (x : Mt) : Option (Bool × Unit) :=
  (bif !(r5good m x.1) then
    some (.inr (false, ()))
  else bif !(r5good m x.2.1) then
    some (.inr (false, ()))
  else bif !((x.2.2.1.1 == 5) && ((x.2.2.1.2.1 == 0) && true)) then
    bif !(rgood x.2.2.1 (m.1.length : Int)) then
      some (.inr (false, ()))
    else bif (x.2.2.2.1.length : Int) == 0 then
      some (.inr (false, ()))
    else bif (x.2.2.2.2.2.2.1.length : Int) != (x.2.2.2.1.length : Int) then
      some (.inr (false, ()))
    else bif decide (IntKind.i64.wrap ((x.1.length : Int) + (x.2.1.length : Int)) > 8) then
      some (.inr (false, ()))
    else some (.inl ())
  else bif (x.2.2.2.1.length : Int) == 0 then
    some (.inr (false, ()))
  else bif (x.2.2.2.2.2.2.1.length : Int) != (x.2.2.2.1.length : Int) then
    some (.inr (false, ()))
  else bif decide (IntKind.i64.wrap ((x.1.length : Int) + (x.2.1.length : Int)) > 8) then
    some (.inr (false, ()))
  else some (.inl ()) : Option (Unit ⊕ (Bool × Unit))).bind fun q => match q with
  | .inr r2 => some r2
  | .inl _ =>
    loopF (r5methodL1 m x) fuel ((0 : Int), ())

def r5saneLen (m : Im) : Prop := ((m.1.length ≤ lenMax ∧ ∀ x1 : Cl, x1 ∈ m.1 → (True ∧ ((x1.2.1.length ≤ lenMax ∧ ∀ x2 : Tp, x2 ∈ x1.2.1 → (True ∧ (True ∧ True))) ∧ ((x1.2.2.1.length ≤ lenMax ∧ ∀ x2 : Int, x2 ∈ x1.2.2.1 → True) ∧ True)))) ∧ ((m.2.1.length ≤ lenMax ∧ ∀ x1 : Tp, x1 ∈ m.2.1 → (True ∧ (True ∧ True))) ∧ ((m.2.2.1.length ≤ lenMax ∧ ∀ x1 : Int, x1 ∈ m.2.2.1 → True) ∧ ((m.2.2.2.1.length ≤ lenMax ∧ ∀ x1 : Mt, x1 ∈ m.2.2.2.1 → ((x1.1.length ≤ lenMax ∧ ∀ x2 : Tp, x2 ∈ x1.1 → (True ∧ (True ∧ True))) ∧ ((x1.2.1.length ≤ lenMax ∧ ∀ x2 : Tp, x2 ∈ x1.2.1 → (True ∧ (True ∧ True))) ∧ ((True ∧ (True ∧ True)) ∧ ((x1.2.2.2.1.length ≤ lenMax ∧ ∀ x2 : Ins, x2 ∈ x1.2.2.2.1 → (True ∧ (True ∧ (True ∧ True)))) ∧ (True ∧ (True ∧ ((x1.2.2.2.2.2.2.1.length ≤ lenMax ∧ ∀ x2 : Int, x2 ∈ x1.2.2.2.2.2.2.1 → True) ∧ True)))))))) ∧ ((m.2.2.2.2.1.length ≤ lenMax ∧ ∀ x1 : Int, x1 ∈ m.2.2.2.2.1 → True) ∧ (True ∧ (True ∧ True))))))) ∧ True
def r5saneL1 (m : Im) (s3 : Bool × Int × Unit) (rec4 : (Bool × Int × Unit) → Option ((Bool × Unit) ⊕ (Int × Unit))) : Option ((Bool × Unit) ⊕ (Int × Unit)) :=
  bif decide (s3.2.1 < (m.1.length : Int)) then
    bif s3.1 then
      (r5class m s3.2.1).bind fun r5 =>
      rec4 (r5.1, IntKind.i64.wrap (s3.2.1 + 1), ())
    else some (.inl (s3.1, ()))
  else some (.inl (s3.1, ()))
def r5saneL2 (m : Im) (s8 : Bool × Int × Unit) (rec9 : (Bool × Int × Unit) → Option ((Bool × Unit) ⊕ (Int × Unit))) : Option ((Bool × Unit) ⊕ (Int × Unit)) :=
  bif decide (s8.2.1 < (m.2.2.2.1.length : Int)) then
    bif s8.1 then
      bif decide (0 ≤ s8.2.1) && decide (s8.2.1 < m.2.2.2.1.length) then
        (r5method m (m.2.2.2.1.getD s8.2.1.toNat zMt)).bind fun r10 =>
        rec9 (r10.1, IntKind.i64.wrap (s8.2.1 + 1), ())
      else none
    else some (.inl (s8.1, ()))
  else some (.inl (s8.1, ()))
def r5saneL3 (m : Im) (s11 : Bool × Int × Unit) (rec12 : (Bool × Int × Unit) → Option (Int × Unit)) (s15 : Bool × Int × Unit) (rec16 : (Bool × Int × Unit) → Option (Int × Unit)) : Option (Int × Unit) :=
  bif decide (0 ≤ m.2.2.2.2.1.getD s11.2.1.toNat 0) && decide (m.2.2.2.2.1.getD s11.2.1.toNat 0 < m.2.2.2.1.length) then
    bif decide (s15.2.1 < ((m.2.2.2.1.getD (m.2.2.2.2.1.getD s11.2.1.toNat 0).toNat zMt).1.length : Int)) then
      bif s15.1 then
        bif decide (0 ≤ m.2.2.2.2.1.getD s11.2.1.toNat 0) && decide (m.2.2.2.2.1.getD s11.2.1.toNat 0 < m.2.2.2.1.length) then
          bif decide (0 ≤ s15.2.1) && decide (s15.2.1 < (m.2.2.2.1.getD (m.2.2.2.2.1.getD s11.2.1.toNat 0).toNat zMt).1.length) then
            rec16 ((((m.2.2.2.1.getD (m.2.2.2.2.1.getD s11.2.1.toNat 0).toNat zMt).1.getD s15.2.1.toNat zTp).1) == 1, IntKind.i64.wrap (s15.2.1 + 1), ())
          else none
        else none
      else rec12 (s15.1, IntKind.i64.wrap (s11.2.1 + 1), ())
    else rec12 (s15.1, IntKind.i64.wrap (s11.2.1 + 1), ())
  else none
def r5saneL4 (m : Im) (fuel : Nat) (s11 : Bool × Int × Unit) (rec12 : (Bool × Int × Unit) → Option (Int × Unit)) : Option (Int × Unit) :=
  bif decide (s11.2.1 < (m.2.2.2.2.1.length : Int)) then
    bif s11.1 then
      bif decide (0 ≤ s11.2.1) && decide (s11.2.1 < m.2.2.2.2.1.length) then
        bif decide (m.2.2.2.2.1.getD s11.2.1.toNat 0 ≥ (m.2.2.2.1.length : Int)) then
          some ((3 : Int), ())
        else 
          (bif decide (0 ≤ m.2.2.2.2.1.getD s11.2.1.toNat 0) && decide (m.2.2.2.2.1.getD s11.2.1.toNat 0 < m.2.2.2.1.length) then
            bif ((m.2.2.2.1.getD (m.2.2.2.2.1.getD s11.2.1.toNat 0).toNat zMt).2.2.1.1) == 1 then
              some (.inl (true, ()))
            else bif decide (0 ≤ m.2.2.2.2.1.getD s11.2.1.toNat 0) && decide (m.2.2.2.2.1.getD s11.2.1.toNat 0 < m.2.2.2.1.length) then
              some (.inl (((m.2.2.2.1.getD (m.2.2.2.2.1.getD s11.2.1.toNat 0).toNat zMt).2.2.1.1) == 5, ()))
            else none
          else none : Option ((Bool × Unit) ⊕ (Int × Unit))).bind fun q => match q with
          | .inr r14 => some r14
          | .inl s13 =>
            loopF (r5saneL3 m s11 rec12) fuel (s13.1, ((0 : Int), ()))
      else none
    else bif !s11.1 then
      some ((3 : Int), ())
    else some ((0 : Int), ())
  else bif !s11.1 then
    some ((3 : Int), ())
  else some ((0 : Int), ())
def r5saneN (fuel : Nat) (m : Im) : Option (Int × Unit) :=
  bif !(r5fits m) then
    some ((2 : Int), ())
  else 
    (loopF (r5saneL1 m) fuel ((r5good m m.2.1), ((0 : Int), ())) : Option ((Bool × Unit) ⊕ (Int × Unit))).bind fun q => match q with
    | .inr r2 => some r2
    | .inl s1 =>
      (loopF (r5saneL2 m) fuel (s1.1, ((0 : Int), ())) : Option ((Bool × Unit) ⊕ (Int × Unit))).bind fun q => match q with
      | .inr r7 => some r7
      | .inl s6 =>
        loopF (r5saneL4 m fuel) fuel (s6.1, ((0 : Int), ()))

def sinN (n : Int) (c : Int) : Option (Bool × Unit) :=
  bif decide (n ≥ 0) then
    some (decide (n < c), ())
  else some (false, ())

def sallLen (m : Im) (l : List (List Tp)) : Prop := ((m.1.length ≤ lenMax ∧ ∀ x1 : Cl, x1 ∈ m.1 → (True ∧ ((x1.2.1.length ≤ lenMax ∧ ∀ x2 : Tp, x2 ∈ x1.2.1 → (True ∧ (True ∧ True))) ∧ ((x1.2.2.1.length ≤ lenMax ∧ ∀ x2 : Int, x2 ∈ x1.2.2.1 → True) ∧ True)))) ∧ ((m.2.1.length ≤ lenMax ∧ ∀ x1 : Tp, x1 ∈ m.2.1 → (True ∧ (True ∧ True))) ∧ ((m.2.2.1.length ≤ lenMax ∧ ∀ x1 : Int, x1 ∈ m.2.2.1 → True) ∧ ((m.2.2.2.1.length ≤ lenMax ∧ ∀ x1 : Mt, x1 ∈ m.2.2.2.1 → ((x1.1.length ≤ lenMax ∧ ∀ x2 : Tp, x2 ∈ x1.1 → (True ∧ (True ∧ True))) ∧ ((x1.2.1.length ≤ lenMax ∧ ∀ x2 : Tp, x2 ∈ x1.2.1 → (True ∧ (True ∧ True))) ∧ ((True ∧ (True ∧ True)) ∧ ((x1.2.2.2.1.length ≤ lenMax ∧ ∀ x2 : Ins, x2 ∈ x1.2.2.2.1 → (True ∧ (True ∧ (True ∧ True)))) ∧ (True ∧ (True ∧ ((x1.2.2.2.2.2.2.1.length ≤ lenMax ∧ ∀ x2 : Int, x2 ∈ x1.2.2.2.2.2.2.1 → True) ∧ True)))))))) ∧ ((m.2.2.2.2.1.length ≤ lenMax ∧ ∀ x1 : Int, x1 ∈ m.2.2.2.2.1 → True) ∧ (True ∧ (True ∧ True))))))) ∧ (l.length ≤ lenMax ∧ ∀ x1 : List Tp, x1 ∈ l → (x1.length ≤ lenMax ∧ ∀ x2 : Tp, x2 ∈ x1 → (True ∧ (True ∧ True)))) ∧ True
def sallL1 (m : Im) (l : List (List Tp)) (s1 : Int × Unit) (rec2 : (Int × Unit) → Option (Bool × Unit)) (s3 : Int × Unit) (rec4 : (Int × Unit) → Option (Bool × Unit)) : Option (Bool × Unit) :=
  bif decide (s3.1 < ((l.getD s1.1.toNat ([] : List Tp)).length : Int)) then
    bif decide (0 ≤ s3.1) && decide (s3.1 < (l.getD s1.1.toNat ([] : List Tp)).length) then
      bif !(kgood ((l.getD s1.1.toNat ([] : List Tp)).getD s3.1.toNat zTp) (m.1.length : Int)) then
        some (false, ())
      else rec4 (IntKind.i64.wrap (s3.1 + 1), ())
    else none
  else rec2 (IntKind.i64.wrap (s1.1 + 1), ())
def sallL2 (m : Im) (l : List (List Tp)) (fuel : Nat) (s1 : Int × Unit) (rec2 : (Int × Unit) → Option (Bool × Unit)) : Option (Bool × Unit) :=
  bif decide (s1.1 < (l.length : Int)) then
    bif decide (0 ≤ s1.1) && decide (s1.1 < l.length) then
      loopF (sallL1 m l s1 rec2) fuel ((0 : Int), ())
    else none
  else some (true, ())
def sallN (fuel : Nat) (m : Im) (l : List (List Tp)) : Option (Bool × Unit) :=
  loopF (sallL2 m l fuel) fuel ((0 : Int), ())

def saboveL1 (m : Im) (s1 : List Int × Unit) (s3 : Int × Int × Unit) (rec4 : (Int × Int × Unit) → Option (Int × List Int × Unit)) : Option (Int × List Int × Unit) :=
  bif decide (s3.2.1 ≥ 0) then
    bif decide (0 ≤ s3.2.1) && decide (s3.2.1 < m.1.length) then
      bif decide (0 ≤ s3.2.1) && decide (s3.2.1 < m.1.length) then
        rec4 (IntKind.i64.wrap (s3.1 + ((m.1.getD s3.2.1.toNat zCl).2.1.length : Int)), (m.1.getD s3.2.1.toNat zCl).1, ())
      else none
    else none
  else some (s3.1, s1.1, ())
def saboveN (fuel : Nat) (m : Im) (c : Int) : Option (Int × List Int × Unit) :=
  (bif decide (0 ≤ c) && decide (c < m.1.length) then
    bif decide ((m.1.getD c.toNat zCl).1 ≥ 0) then
      bif decide (0 ≤ (m.1.getD c.toNat zCl).1) && decide ((m.1.getD c.toNat zCl).1 < m.1.length) then
        some (.inl ((m.1.getD (m.1.getD c.toNat zCl).1.toNat zCl).2.2.1, ()))
      else none
    else some (.inl (([] : List Int), ()))
  else none : Option ((List Int × Unit) ⊕ (Int × List Int × Unit))).bind fun q => match q with
  | .inr r2 => some r2
  | .inl s1 =>
    bif decide (0 ≤ c) && decide (c < m.1.length) then
      loopF (saboveL1 m s1) fuel ((0 : Int), (m.1.getD c.toNat zCl).1, ())
    else none

def sfitsN (m : Im) (c : Int) (f : Int) : Option (Bool × Unit) :=
  bif decide (0 ≤ f) && decide (f < m.2.2.2.1.length) then
    bif decide (((m.2.2.2.1.getD f.toNat zMt).1.length : Int) > 0) then
      bif decide ((0 : Int) < (m.2.2.2.1.getD f.toNat zMt).1.length) then
        some ((ksub m.1 ((3 : Int), c, ()) ((m.2.2.2.1.getD f.toNat zMt).1.getD 0 zTp)), ())
      else none
    else some (false, ())
  else none

def salikeN (a : Mt) (b : Mt) : Option (Bool × Unit) :=
  bif decide ((a.1.length : Int) > 0) then
    bif decide ((b.1.length : Int) > 0) then
      bif decide ((1 : Int) ≤ (a.1.length : Int)) && decide ((a.1.length : Int) ≤ (a.1.length : Int)) then
        bif decide ((1 : Int) ≤ (b.1.length : Int)) && decide ((b.1.length : Int) ≤ (b.1.length : Int)) then
          bif (eqL ((a.1.take a.1.length).drop 1) ((b.1.take b.1.length).drop 1)) then
            some ((a.2.2.1.1 == b.2.2.1.1) && ((a.2.2.1.2.1 == b.2.2.1.2.1) && true), ())
          else some (false, ())
        else none
      else none
    else some (false, ())
  else some (false, ())

def sclassL1 (m : Im) (c : Int) (r1 : Int × List Int × Unit) (s2 : Int × Unit) (rec3 : (Int × Unit) → Option (Bool × Unit)) : Option (Bool × Unit) :=
  bif decide (s2.1 < ((m.1.getD c.toNat zCl).2.2.1.length : Int)) then
    bif decide (0 ≤ s2.1) && decide (s2.1 < (m.1.getD c.toNat zCl).2.2.1.length) then
      bif !(sin ((m.1.getD c.toNat zCl).2.2.1.getD s2.1.toNat 0) (m.2.2.2.1.length : Int)) then
        some (false, ())
      else 
        (sfits m c ((m.1.getD c.toNat zCl).2.2.1.getD s2.1.toNat 0)).bind fun r4 =>
        bif !r4.1 then
          some (false, ())
        else bif decide (s2.1 < (r1.2.1.length : Int)) then
          bif decide (0 ≤ (m.1.getD c.toNat zCl).2.2.1.getD s2.1.toNat 0) && decide ((m.1.getD c.toNat zCl).2.2.1.getD s2.1.toNat 0 < m.2.2.2.1.length) then
            bif decide (0 ≤ s2.1) && decide (s2.1 < r1.2.1.length) then
              bif decide (0 ≤ r1.2.1.getD s2.1.toNat 0) && decide (r1.2.1.getD s2.1.toNat 0 < m.2.2.2.1.length) then
                bif !(salike (m.2.2.2.1.getD ((m.1.getD c.toNat zCl).2.2.1.getD s2.1.toNat 0).toNat zMt) (m.2.2.2.1.getD (r1.2.1.getD s2.1.toNat 0).toNat zMt)) then
                  some (false, ())
                else rec3 (IntKind.i64.wrap (s2.1 + 1), ())
              else none
            else none
          else none
        else rec3 (IntKind.i64.wrap (s2.1 + 1), ())
    else none
  else some (true, ())
def sclassN (fuel : Nat) (m : Im) (c : Int) : Option (Bool × Unit) :=
  bif decide (0 ≤ c) && decide (c < m.1.length) then
    bif decide ((m.1.getD c.toNat zCl).1 ≥ c) then
      some (false, ())
    else bif !(sall m [(m.1.getD c.toNat zCl).2.1]) then
      some (false, ())
    else 
      (sabove m c).bind fun r1 =>
      bif decide (IntKind.i64.wrap (r1.1 + ((m.1.getD c.toNat zCl).2.1.length : Int)) > 8) then
        some (false, ())
      else bif decide (((m.1.getD c.toNat zCl).2.2.1.length : Int) < (r1.2.1.length : Int)) then
        some (false, ())
      else loopF (sclassL1 m c r1) fuel ((0 : Int), ())
  else none

def sfieldsN (c : Int) (m : Im) : Option (Int × Unit) :=
  (sabove m c).bind fun r1 =>
  bif decide (0 ≤ c) && decide (c < m.1.length) then
    some (IntKind.i64.wrap (r1.1 + ((m.1.getD c.toNat zCl).2.1.length : Int)), ())
  else none

def sinstrN (m : Im) (x : Mt) (i : Ins) (f : Im × Unit) : Option (Bool × Unit) :=
  bif i.1 == 1 then
    some ((sin i.2.1 (m.2.2.1.length : Int)), ())
  else 
    (bif i.1 == 3 then
      some (.inl (true, ()))
    else some (.inl (i.1 == 4, ())) : Option ((Bool × Unit) ⊕ (Bool × Unit))).bind fun q => match q with
    | .inr r2 => some r2
    | .inl s1 =>
      bif s1.1 then
        some ((sin i.2.1 (IntKind.i64.wrap ((x.1.length : Int) + (x.2.1.length : Int)))), ())
      else 
        (bif i.1 == 18 then
          some (.inl (true, ()))
        else some (.inl (i.1 == 19, ())) : Option ((Bool × Unit) ⊕ (Bool × Unit))).bind fun q => match q with
        | .inr r4 => some r4
        | .inl s3 =>
          bif s3.1 then
            some ((sin i.2.1 (x.2.2.2.1.length : Int)), ())
          else 
            (bif i.1 == 22 then
              some (.inl (true, ()))
            else some (.inl (i.1 == 34, ())) : Option ((Bool × Unit) ⊕ (Bool × Unit))).bind fun q => match q with
            | .inr r6 => some r6
            | .inl s5 =>
              bif s5.1 then
                some ((sin i.2.1 (m.1.length : Int)), ())
              else 
                (bif i.1 == 27 then
                  some (.inl (true, ()))
                else some (.inl (i.1 == 28, ())) : Option ((Bool × Unit) ⊕ (Bool × Unit))).bind fun q => match q with
                | .inr r8 => some r8
                | .inl s7 =>
                  bif s7.1 then
                    bif (sin i.2.1 (m.1.length : Int)) then
                      (sfields i.2.1 f.1).bind fun r9 =>
                      some ((sin i.2.2.1 r9.1), ())
                    else some (false, ())
                  else 
                    (bif i.1 == 29 then
                      some (.inl (true, ()))
                    else some (.inl (i.1 == 30, ())) : Option ((Bool × Unit) ⊕ (Bool × Unit))).bind fun q => match q with
                    | .inr r11 => some r11
                    | .inl s10 =>
                      bif s10.1 then
                        some ((sin i.2.1 (m.2.1.length : Int)), ())
                      else bif i.1 == 31 then
                        some ((sin i.2.1 (m.2.2.2.1.length : Int)), ())
                      else bif i.1 == 32 then
                        bif (sin i.2.1 (m.1.length : Int)) then
                          bif decide (0 ≤ i.2.1) && decide (i.2.1 < m.1.length) then
                            some ((sin i.2.2.1 ((m.1.getD i.2.1.toNat zCl).2.2.1.length : Int)), ())
                          else none
                        else some (false, ())
                      else some (true, ())

def smethodL1 (m : Im) (x : Mt) (s3 : Int × Unit) (rec4 : (Int × Unit) → Option (Bool × Unit)) : Option (Bool × Unit) :=
  bif decide (s3.1 < (x.2.2.2.1.length : Int)) then
    bif decide (0 ≤ s3.1) && decide (s3.1 < x.2.2.2.1.length) then
      (sinstr m x (x.2.2.2.1.getD s3.1.toNat zIns) (m, ())).bind fun r5 =>
      bif !r5.1 then
        some (false, ())
      else rec4 (IntKind.i64.wrap (s3.1 + 1), ())
    else none
  else some (true, ())
def smethodN (fuel : Nat) (m : Im) (x : Mt) : Option (Bool × Unit) :=
  (bif !(sall m [x.1, x.2.1]) then
    some (.inr (false, ()))
  else bif !((x.2.2.1.1 == 5) && ((x.2.2.1.2.1 == 0) && true)) then
    bif !(sall m [[x.2.2.1]]) then
      some (.inr (false, ()))
    else some (.inl ())
  else some (.inl ()) : Option (Unit ⊕ (Bool × Unit))).bind fun q => match q with
  | .inr r2 => some r2
  | .inl _ =>
    bif (x.2.2.2.1.length : Int) == 0 then
      some (false, ())
    else bif (x.2.2.2.2.2.2.1.length : Int) != (x.2.2.2.1.length : Int) then
      some (false, ())
    else bif decide (IntKind.i64.wrap ((x.1.length : Int) + (x.2.1.length : Int)) > 8) then
      some (false, ())
    else loopF (smethodL1 m x) fuel ((0 : Int), ())

def sentry1N (t : Tp) : Option (Bool × Unit) :=
  some ((t.1 == 1) && ((t.2.1 == 0) && true), ())

def sentry2N (t : Tp) (_f : Unit) : Option (Bool × Unit) :=
  some (!(sentry1 t), ())

def sentryN (m : Im) (f : Int) : Option (Bool × Unit) :=
  bif !(sin f (m.2.2.2.1.length : Int)) then
    some (false, ())
  else bif decide (0 ≤ f) && decide (f < m.2.2.2.1.length) then
    bif (sentry1 (m.2.2.2.1.getD f.toNat zMt).2.2.1) then
      some (!(containsEntry (m.2.2.2.1.getD f.toNat zMt).1 ((), ())), ())
    else bif ((m.2.2.2.1.getD f.toNat zMt).2.2.1.1) == 5 then
      some (!(containsEntry (m.2.2.2.1.getD f.toNat zMt).1 ((), ())), ())
    else some (false, ())
  else none

def scheckLen (m : Im) : Prop := ((m.1.length ≤ lenMax ∧ ∀ x1 : Cl, x1 ∈ m.1 → (True ∧ ((x1.2.1.length ≤ lenMax ∧ ∀ x2 : Tp, x2 ∈ x1.2.1 → (True ∧ (True ∧ True))) ∧ ((x1.2.2.1.length ≤ lenMax ∧ ∀ x2 : Int, x2 ∈ x1.2.2.1 → True) ∧ True)))) ∧ ((m.2.1.length ≤ lenMax ∧ ∀ x1 : Tp, x1 ∈ m.2.1 → (True ∧ (True ∧ True))) ∧ ((m.2.2.1.length ≤ lenMax ∧ ∀ x1 : Int, x1 ∈ m.2.2.1 → True) ∧ ((m.2.2.2.1.length ≤ lenMax ∧ ∀ x1 : Mt, x1 ∈ m.2.2.2.1 → ((x1.1.length ≤ lenMax ∧ ∀ x2 : Tp, x2 ∈ x1.1 → (True ∧ (True ∧ True))) ∧ ((x1.2.1.length ≤ lenMax ∧ ∀ x2 : Tp, x2 ∈ x1.2.1 → (True ∧ (True ∧ True))) ∧ ((True ∧ (True ∧ True)) ∧ ((x1.2.2.2.1.length ≤ lenMax ∧ ∀ x2 : Ins, x2 ∈ x1.2.2.2.1 → (True ∧ (True ∧ (True ∧ True)))) ∧ (True ∧ (True ∧ ((x1.2.2.2.2.2.2.1.length ≤ lenMax ∧ ∀ x2 : Int, x2 ∈ x1.2.2.2.2.2.2.1 → True) ∧ True)))))))) ∧ ((m.2.2.2.2.1.length ≤ lenMax ∧ ∀ x1 : Int, x1 ∈ m.2.2.2.2.1 → True) ∧ (True ∧ (True ∧ True))))))) ∧ True
def scheckL1 (m : Im) (s7 : Int × Unit) (rec8 : (Int × Unit) → Option (Int × Unit)) : Option (Int × Unit) :=
  bif decide (s7.1 < (m.2.2.2.2.1.length : Int)) then
    bif decide (0 ≤ s7.1) && decide (s7.1 < m.2.2.2.2.1.length) then
      (sentry m (m.2.2.2.2.1.getD s7.1.toNat 0)).bind fun r9 =>
      bif !r9.1 then
        some ((3 : Int), ())
      else rec8 (IntKind.i64.wrap (s7.1 + 1), ())
    else none
  else some ((0 : Int), ())
def scheckL2 (m : Im) (fuel : Nat) (s4 : Int × Unit) (rec5 : (Int × Unit) → Option (Int × Unit)) : Option (Int × Unit) :=
  bif decide (s4.1 < (m.2.2.2.1.length : Int)) then
    bif decide (0 ≤ s4.1) && decide (s4.1 < m.2.2.2.1.length) then
      (smethod m (m.2.2.2.1.getD s4.1.toNat zMt)).bind fun r6 =>
      bif !r6.1 then
        some ((3 : Int), ())
      else rec5 (IntKind.i64.wrap (s4.1 + 1), ())
    else none
  else loopF (scheckL1 m) fuel ((0 : Int), ())
def scheckL3 (m : Im) (fuel : Nat) (s1 : Int × Unit) (rec2 : (Int × Unit) → Option (Int × Unit)) : Option (Int × Unit) :=
  bif decide (s1.1 < (m.1.length : Int)) then
    (sclass m s1.1).bind fun r3 =>
    bif !r3.1 then
      some ((3 : Int), ())
    else rec2 (IntKind.i64.wrap (s1.1 + 1), ())
  else loopF (scheckL2 m fuel) fuel ((0 : Int), ())
def scheckN (fuel : Nat) (m : Im) : Option (Int × Unit) :=
  bif !(ifits m) then
    some ((2 : Int), ())
  else bif !(sall m [m.2.1]) then
    some ((3 : Int), ())
  else loopF (scheckL3 m fuel) fuel ((0 : Int), ())

def awake6N : Option (Bool × Unit) :=
  bif (scheck (([] : List Cl), (([] : List Tp), (([] : List Int), ([(([] : List Tp), (([] : List Tp), (((5 : Int), ((0 : Int), ())), ([((33 : Int), ((0 : Int), ((0 : Int), ())))], ((0 : Int), ((0 : Int), (([0] : List Int), ())))))))], (([0] : List Int), ((0 : Int), ((0 : Int), ())))))))) == 0 then
    bif (scheck (([] : List Cl), (([] : List Tp), (([] : List Int), ([(([] : List Tp), (([] : List Tp), (((5 : Int), ((0 : Int), ())), ([((33 : Int), ((0 : Int), ((0 : Int), ())))], ((0 : Int), ((0 : Int), (([0] : List Int), ())))))))], (([1] : List Int), ((0 : Int), ((0 : Int), ())))))))) == 3 then
      bif (scheck (([] : List Cl), (([] : List Tp), (([] : List Int), (([] : List Mt), (([] : List Int), ((-1 : Int), ((0 : Int), ())))))))) == 2 then
        some ((r5fits (([] : List Cl), (([] : List Tp), (([] : List Int), ([(([] : List Tp), (([] : List Tp), (((5 : Int), ((0 : Int), ())), ([((33 : Int), ((0 : Int), ((0 : Int), ())))], ((0 : Int), ((0 : Int), (([0] : List Int), ())))))))], (([1] : List Int), ((0 : Int), ((0 : Int), ())))))))), ())
      else some (false, ())
    else some (false, ())
  else some (false, ())

def small6Len (m : Im) : Prop := ((m.1.length ≤ lenMax ∧ ∀ x1 : Cl, x1 ∈ m.1 → (True ∧ ((x1.2.1.length ≤ lenMax ∧ ∀ x2 : Tp, x2 ∈ x1.2.1 → (True ∧ (True ∧ True))) ∧ ((x1.2.2.1.length ≤ lenMax ∧ ∀ x2 : Int, x2 ∈ x1.2.2.1 → True) ∧ True)))) ∧ ((m.2.1.length ≤ lenMax ∧ ∀ x1 : Tp, x1 ∈ m.2.1 → (True ∧ (True ∧ True))) ∧ ((m.2.2.1.length ≤ lenMax ∧ ∀ x1 : Int, x1 ∈ m.2.2.1 → True) ∧ ((m.2.2.2.1.length ≤ lenMax ∧ ∀ x1 : Mt, x1 ∈ m.2.2.2.1 → ((x1.1.length ≤ lenMax ∧ ∀ x2 : Tp, x2 ∈ x1.1 → (True ∧ (True ∧ True))) ∧ ((x1.2.1.length ≤ lenMax ∧ ∀ x2 : Tp, x2 ∈ x1.2.1 → (True ∧ (True ∧ True))) ∧ ((True ∧ (True ∧ True)) ∧ ((x1.2.2.2.1.length ≤ lenMax ∧ ∀ x2 : Ins, x2 ∈ x1.2.2.2.1 → (True ∧ (True ∧ (True ∧ True)))) ∧ (True ∧ (True ∧ ((x1.2.2.2.2.2.2.1.length ≤ lenMax ∧ ∀ x2 : Int, x2 ∈ x1.2.2.2.2.2.2.1 → True) ∧ True)))))))) ∧ ((m.2.2.2.2.1.length ≤ lenMax ∧ ∀ x1 : Int, x1 ∈ m.2.2.2.2.1 → True) ∧ (True ∧ (True ∧ True))))))) ∧ True
def small6L1 (m : Im) (s1 : Int × Unit) (rec2 : (Int × Unit) → Option (Bool × Unit)) : Option (Bool × Unit) :=
  bif decide (s1.1 < (m.2.2.2.1.length : Int)) then
    bif decide (0 ≤ s1.1) && decide (s1.1 < m.2.2.2.1.length) then
      bif decide (IntKind.i64.wrap ((IntKind.i64.wrap ((IntKind.i64.wrap (((m.2.2.2.1.getD s1.1.toNat zMt).1.length : Int) + ((m.2.2.2.1.getD s1.1.toNat zMt).2.1.length : Int))) + ((m.2.2.2.1.getD s1.1.toNat zMt).2.2.2.1.length : Int))) + ((m.2.2.2.1.getD s1.1.toNat zMt).2.2.2.2.2.2.1.length : Int)) > 1000) then
        some (false, ())
      else rec2 (IntKind.i64.wrap (s1.1 + 1), ())
    else none
  else some (true, ())
def small6N (fuel : Nat) (m : Im) : Option (Bool × Unit) :=
  bif decide (IntKind.i64.wrap ((IntKind.i64.wrap ((IntKind.i64.wrap ((IntKind.i64.wrap ((m.1.length : Int) + (m.2.1.length : Int))) + (m.2.2.1.length : Int))) + (m.2.2.2.1.length : Int))) + (m.2.2.2.2.1.length : Int)) > 300) then
    some (false, ())
  else loopF (small6L1 m) fuel ((0 : Int), ())

def saneChecksN (m : Im) : Option (Bool × Unit) :=
  bif !(small6 m) then
    awake6N.bind fun r1 =>
    some (r1.1, ())
  else 
    awake6N.bind fun r2 =>
    bif r2.1 then
      some ((scheck m) == (r5sane m), ())
    else some (false, ())

def sanePartsN (m : Im) (n : Int) : Option (Bool × Unit) :=
  bif !(small6 m) then
    awake6N.bind fun r1 =>
    some (r1.1, ())
  else bif (scheck m) != 0 then
    awake6N.bind fun r2 =>
    some (r2.1, ())
  else bif (scheck (m.1, m.2.1, m.2.2.1, m.2.2.2.1, (([] : List Int), m.2.2.2.2.2))) != 0 then
    some (false, ())
  else bif decide (([] : List Int).length + m.2.2.1.length < rowMax) then
    bif decide ((([] : List Int) ++ m.2.2.1).length + [n].length < rowMax) then
      bif !(((scheck (m.1, m.2.1, ((([] : List Int) ++ m.2.2.1) ++ [n], m.2.2.2))) == 0) == (decide ((m.2.2.1.length : Int) < 16))) then
        some (false, ())
      else bif decide (([] : List Tp).length + m.2.1.length < rowMax) then
        bif decide ((([] : List Tp) ++ m.2.1).length + [((2 : Int), ((0 : Int), ()))].length < rowMax) then
          bif !(((scheck (m.1, ((([] : List Tp) ++ m.2.1) ++ [((2 : Int), ((0 : Int), ()))], m.2.2))) == 0) == (decide ((m.2.1.length : Int) < 8))) then
            some (false, ())
          else bif decide (([] : List Cl).length + m.1.length < rowMax) then
            bif decide ((([] : List Cl) ++ m.1).length + [((-1 : Int), (([] : List Tp), (([] : List Int), ())))].length < rowMax) then
              awake6N.bind fun r3 =>
              bif r3.1 then
                some (((scheck ((([] : List Cl) ++ m.1) ++ [((-1 : Int), (([] : List Tp), (([] : List Int), ())))], m.2)) == 0) == (decide ((m.1.length : Int) < 8)), ())
              else some (false, ())
            else none
          else none
        else none
      else none
    else none
  else none

def awake5N : Option (Bool × Unit) :=
  (iencode (([] : List Cl), (([] : List Tp), (([-5] : List Int), ([(([] : List Tp), (([] : List Tp), (((5 : Int), ((0 : Int), ())), ([((33 : Int), ((0 : Int), ((0 : Int), ())))], ((0 : Int), ((0 : Int), (([0] : List Int), ())))))))], (([0] : List Int), ((9 : Int), ((0 : Int), ())))))))).bind fun r1 =>
  (idecode r1.1).bind fun r2 =>
  (idecode ([112, 108, 105, 109] : List Int)).bind fun r3 =>
  bif r1.2.1 == 0 then
    bif r2.2.1 == 0 then
      bif r3.2.1 == 2 then
        bif (r5same r2.1 (([] : List Cl), (([] : List Tp), (([-5] : List Int), ([(([] : List Tp), (([] : List Tp), (((5 : Int), ((0 : Int), ())), ([((33 : Int), ((0 : Int), ((0 : Int), ())))], ((0 : Int), ((0 : Int), (([0] : List Int), ())))))))], (([0] : List Int), ((9 : Int), ((0 : Int), ())))))))) then
          bif (isame r2.1 (([] : List Cl), (([] : List Tp), (([-5] : List Int), ([(([] : List Tp), (([] : List Tp), (((5 : Int), ((0 : Int), ())), ([((33 : Int), ((0 : Int), ((0 : Int), ())))], ((0 : Int), ((0 : Int), (([0] : List Int), ())))))))], (([0] : List Int), ((9 : Int), ((0 : Int), ())))))))) then
            some ((ifits (([] : List Cl), (([] : List Tp), (([-5] : List Int), ([(([] : List Tp), (([] : List Tp), (((5 : Int), ((0 : Int), ())), ([((33 : Int), ((0 : Int), ((0 : Int), ())))], ((0 : Int), ((0 : Int), (([0] : List Int), ())))))))], (([0] : List Int), ((9 : Int), ((0 : Int), ())))))))), ())
          else some (false, ())
        else some (false, ())
      else some (false, ())
    else some (false, ())
  else some (false, ())

def small5Len (m : Im) : Prop := ((m.1.length ≤ lenMax ∧ ∀ x1 : Cl, x1 ∈ m.1 → (True ∧ ((x1.2.1.length ≤ lenMax ∧ ∀ x2 : Tp, x2 ∈ x1.2.1 → (True ∧ (True ∧ True))) ∧ ((x1.2.2.1.length ≤ lenMax ∧ ∀ x2 : Int, x2 ∈ x1.2.2.1 → True) ∧ True)))) ∧ ((m.2.1.length ≤ lenMax ∧ ∀ x1 : Tp, x1 ∈ m.2.1 → (True ∧ (True ∧ True))) ∧ ((m.2.2.1.length ≤ lenMax ∧ ∀ x1 : Int, x1 ∈ m.2.2.1 → True) ∧ ((m.2.2.2.1.length ≤ lenMax ∧ ∀ x1 : Mt, x1 ∈ m.2.2.2.1 → ((x1.1.length ≤ lenMax ∧ ∀ x2 : Tp, x2 ∈ x1.1 → (True ∧ (True ∧ True))) ∧ ((x1.2.1.length ≤ lenMax ∧ ∀ x2 : Tp, x2 ∈ x1.2.1 → (True ∧ (True ∧ True))) ∧ ((True ∧ (True ∧ True)) ∧ ((x1.2.2.2.1.length ≤ lenMax ∧ ∀ x2 : Ins, x2 ∈ x1.2.2.2.1 → (True ∧ (True ∧ (True ∧ True)))) ∧ (True ∧ (True ∧ ((x1.2.2.2.2.2.2.1.length ≤ lenMax ∧ ∀ x2 : Int, x2 ∈ x1.2.2.2.2.2.2.1 → True) ∧ True)))))))) ∧ ((m.2.2.2.2.1.length ≤ lenMax ∧ ∀ x1 : Int, x1 ∈ m.2.2.2.2.1 → True) ∧ (True ∧ (True ∧ True))))))) ∧ True
def small5L1 (m : Im) (s3 : Int × Unit) (rec4 : (Int × Unit) → Option (Bool × Unit)) : Option (Bool × Unit) :=
  bif decide (s3.1 < (m.1.length : Int)) then
    bif decide (0 ≤ s3.1) && decide (s3.1 < m.1.length) then
      bif decide (0 ≤ s3.1) && decide (s3.1 < m.1.length) then
        bif decide (IntKind.i64.wrap (((m.1.getD s3.1.toNat zCl).2.1.length : Int) + ((m.1.getD s3.1.toNat zCl).2.2.1.length : Int)) > 300) then
          some (false, ())
        else rec4 (IntKind.i64.wrap (s3.1 + 1), ())
      else none
    else none
  else some (true, ())
def small5L2 (m : Im) (fuel : Nat) (s1 : Int × Unit) (rec2 : (Int × Unit) → Option (Bool × Unit)) : Option (Bool × Unit) :=
  bif decide (s1.1 < (m.2.2.2.1.length : Int)) then
    bif decide (0 ≤ s1.1) && decide (s1.1 < m.2.2.2.1.length) then
      bif decide (IntKind.i64.wrap ((IntKind.i64.wrap ((IntKind.i64.wrap (((m.2.2.2.1.getD s1.1.toNat zMt).1.length : Int) + ((m.2.2.2.1.getD s1.1.toNat zMt).2.1.length : Int))) + ((m.2.2.2.1.getD s1.1.toNat zMt).2.2.2.1.length : Int))) + ((m.2.2.2.1.getD s1.1.toNat zMt).2.2.2.2.2.2.1.length : Int)) > 1000) then
        some (false, ())
      else rec2 (IntKind.i64.wrap (s1.1 + 1), ())
    else none
  else loopF (small5L1 m) fuel ((0 : Int), ())
def small5N (fuel : Nat) (m : Im) : Option (Bool × Unit) :=
  bif decide (IntKind.i64.wrap ((IntKind.i64.wrap ((IntKind.i64.wrap ((IntKind.i64.wrap ((m.1.length : Int) + (m.2.1.length : Int))) + (m.2.2.1.length : Int))) + (m.2.2.2.1.length : Int))) + (m.2.2.2.2.1.length : Int)) > 300) then
    some (false, ())
  else loopF (small5L2 m fuel) fuel ((0 : Int), ())

def imageEncodesN (m : Im) : Option (Bool × Unit) :=
  bif !(small5 m) then
    awake5N.bind fun r1 =>
    some (r1.1, ())
  else 
    (iencode m).bind fun r2 =>
    bif !(r5fits m) then
      awake5N.bind fun r3 =>
      bif r3.1 then
        bif r2.2.1 == 1 then
          bif (r2.1.length : Int) == 0 then
            some (!(ifits m), ())
          else some (false, ())
        else some (false, ())
      else some (false, ())
    else 
      (r5encode m).bind fun r4 =>
      bif decide ((r4.1.length : Int) > 8192) then
        awake5N.bind fun r5 =>
        bif r5.1 then
          bif r2.2.1 == 12 then
            some ((r2.1.length : Int) == 0, ())
          else some (false, ())
        else some (false, ())
      else 
        (idecode r2.1).bind fun r6 =>
        awake5N.bind fun r7 =>
        bif r7.1 then
          bif r2.2.1 == 0 then
            bif (ifits m) then
              bif (strOfNums r2.1).toList == (strOfNums r4.1).toList then
                bif r6.2.1 == 0 then
                  some ((r5same r6.1 m), ())
                else some (false, ())
              else some (false, ())
            else some (false, ())
          else some (false, ())
        else some (false, ())

def imageDecodesN (b : List Int) : Option (Bool × Unit) :=
  (bif decide ((b.length : Int) > 9000) then
    bif decide ((9000 : Int) ≤ (b.length : Int)) then
      some (.inl ((b.take 9000).drop 0, ()))
    else none
  else some (.inl (b, ())) : Option ((List Int × Unit) ⊕ (Bool × Unit))).bind fun q => match q with
  | .inr r2 => some r2
  | .inl s1 =>
    (idecode s1.1).bind fun r3 =>
    bif r3.2.1 != 0 then
      awake5N.bind fun r4 =>
      bif r4.1 then
        bif r3.2.1 == 2 then
          some ((r5same r3.1 (([] : List Cl), (([] : List Tp), (([] : List Int), (([] : List Mt), (([] : List Int), ((0 : Int), ((0 : Int), ())))))))), ())
        else some (false, ())
      else some (false, ())
    else 
      awake5N.bind fun r5 =>
      bif r5.1 then
        bif (r5fits r3.1) then
          (r5encode r3.1).bind fun r6 =>
          bif (strOfNums r6.1).toList == (strOfNums s1.1).toList then
            some (decide ((s1.1.length : Int) ≤ 8192), ())
          else some (false, ())
        else some (false, ())
      else some (false, ())

def imageCutsN (m : Im) (a : Int) (x : List Int) : Option (Bool × Unit) :=
  bif !(small5 m) then
    awake5N.bind fun r1 =>
    some (r1.1, ())
  else bif decide ((x.length : Int) > 50) then
    awake5N.bind fun r2 =>
    some (r2.1, ())
  else 
    (iencode m).bind fun r3 =>
    bif r3.2.1 != 0 then
      awake5N.bind fun r4 =>
      bif r4.1 then
        some (r3.2.1 != 0, ())
      else some (false, ())
    else bif (r3.1.length : Int) == 0 then
      awake5N.bind fun r5 =>
      bif r5.1 then
        some (r3.2.1 != 0, ())
      else some (false, ())
    else bif !decide ((r3.1.length : Int) = 0) then
      bif decide ((0 : Int) ≤ (IntKind.i64.wrap a).tmod (r3.1.length : Int)) && decide ((IntKind.i64.wrap a).tmod (r3.1.length : Int) ≤ (r3.1.length : Int)) then
        (idecode ((r3.1.take ((IntKind.i64.wrap a).tmod (r3.1.length : Int)).toNat).drop 0)).bind fun r6 =>
        bif decide (([] : List Int).length + r3.1.length < rowMax) then
          bif decide ((([] : List Int) ++ r3.1).length + x.length < rowMax) then
            (idecode ((([] : List Int) ++ r3.1) ++ x)).bind fun r7 =>
            awake5N.bind fun r8 =>
            bif r8.1 then
              bif r6.2.1 == 2 then
                some ((r7.2.1 == 2) == (decide ((x.length : Int) > 0)), ())
              else some (false, ())
            else some (false, ())
          else none
        else none
      else none
    else none

end Go.Pli
