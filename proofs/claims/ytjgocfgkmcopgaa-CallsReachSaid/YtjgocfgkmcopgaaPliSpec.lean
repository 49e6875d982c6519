/- What functions of the program come to, in plain Lean. -/
import Derived.Test.YtjgocfgkmcopgaaPMDefs
import Derived.Laws.BitsAllLaws
import Derived.Laws.Bits64
import Derived.Laws.BitsLemmas
namespace Go.Pli
open Go Go.PM

/-- A number, seven bits a byte. -/
def encF : Nat → Nat → List Int
  | 0, v => [(v : Int)]
  | k + 1, v => if v < 128 then [(v : Int)] else ((128 + v % 128 : Nat) : Int) :: encF k (v / 128)
def enc (v : Nat) : List Int := encF 10 v

def roomFor (b : List Int) : Bool := Nat.blt (b.length + 20) rowMax

def put (b : List Int) (n : Int) : Option (List Int × Unit) := bif roomFor b then some (b ++ enc (IntKind.u64.wrap (max n 0)).toNat, ()) else none

def rbytes (n : Int) : Option (List Int × Unit) := bif Nat.blt n.toNat 9223372036854775808 then some (enc n.toNat, ()) else none

/-- The number at a row's head, and how many bytes it takes; false: not the shortest. -/
def decF : Nat → Nat → Nat → List Int → Option (Nat × Nat × Bool)
  | 0, _, _, _ => none
  | _ + 1, _, _, [] => none
  | k + 1, i, v, c :: l => if c < 128 then some (v + 128 ^ i * (c.toNat % 128), i + 1, i == 0 || decide (0 < c)) else decF k (i + 1) (v + 128 ^ i * (c.toNat % 128)) l

def bytesB (l : List Int) : Bool := l.all fun c => decide (0 ≤ c) && decide (c < 256)

abbrev Rd := List Int × Bool × Unit

def next (r : Rd) : Option (Int × Bool × Rd × Unit) :=
  bif bytesB (r.1.take 5) then (match decF 5 0 0 r.1 with
    | some (v, n, ok) => some ((v : Int), ok, (r.1.drop n, r.2.1, ()), ())
    | none => some (0, false, r, ())) else none

def rnext (b : List Int) : Option (Int × Int × Unit) :=
  bif bytesB (b.take 5) then (match decF 5 0 0 b with
    | some (v, n, true) => some ((v : Int), (n : Int), ())
    | _ => some (0, 0, ())) else none

def rin (l : List Int) (x : Int) : Option (Bool × Unit) := bif decide (l.length < 9223372036854775807) then some (l.contains x, ()) else none

/-- How many numbers an instruction has; below 0: there is none such. -/
def iargs (o : Int) : Int :=
  bif ([1, 3, 4, 18, 19, 22, 23, 29, 30, 31, 34] : List Int).contains o then 1
  else bif o == 27 || (o == 28 || o == 32) then 2
  else bif decide (o < 1) || decide (o > 34) then -1 else 0
def rargs (o : Int) : Int := iargs o

abbrev Ins := Int × Int × Int × Unit

def within (n c a : Int) : Bool := bif decide (a ≥ c) then n == 0 else decide (n ≥ 0) && decide (n ≤ 255)

def igood (i : Ins) : Bool := decide (iargs i.1 ≥ 0) && (within i.2.1 (iargs i.1) 0 && within i.2.2.1 (iargs i.1) 1)
def rinstr (i : Ins) : Bool := igood i

def iput (b : List Int) (i : Ins) : Option (List Int × Unit) :=
  (put b i.1).bind fun r => bif decide (iargs i.1 < 1) then some r else (put r.1 i.2.1).bind fun r => bif decide (iargs i.1 < 2) then some r else put r.1 i.2.2.1

end Go.Pli
