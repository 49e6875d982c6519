/- What functions of the program come to, in plain Lean. -/
import Derived.Test.YtcofionghgmldaaGreatPMDefs
import Derived.Laws.BitsAllLaws
import Derived.Laws.Bits64
import Derived.Laws.BitsLemmas
namespace Go.Pli
open Go Go.PM
def encF : Nat → Nat → List Int
 | 0, v => [(v : Int)]
 | k + 1, v => if v < 128 then [(v : Int)] else ((128 + v % 128 : Nat) : Int) :: encF k (v / 128)
def enc (v : Nat) : List Int := encF 10 v
def roomFor (b : List Int) : Bool := Nat.blt (b.length + 20) rowMax
def put (b : List Int) (n : Int) : Option (List Int × Unit) := bif roomFor b then some (b ++ enc (IntKind.u64.wrap (max n 0)).toNat, ()) else none
def rbytes (n : Int) : Option (List Int × Unit) := bif Nat.blt n.toNat 9223372036854775808 then some (enc n.toNat, ()) else none
def decF : Nat → Nat → Nat → List Int → Option (Nat × Nat × Bool)
 | 0, _, _, _ => none
 | _ + 1, _, _, [] => none
 | k + 1, i, v, c :: l => if c < 128 then some (v + 128 ^ i * (c.toNat % 128), i + 1, i == 0 || decide (0 < c)) else decF k (i + 1) (v + 128 ^ i * (c.toNat % 128)) l
def bytesB (l : List Int) : Bool := l.all fun c => decide (0 ≤ c) && decide (c < 256)
abbrev Rd := List Int × Bool × Unit
def next (r : Rd) : Option (Int × Bool × Rd × Unit) :=
 bif bytesB (r.1.take 5) then (match decF 5 0 0 r.1 with
  | some (v, n, ok) => some ((v : Int), ok, (r.1.drop n, r.2.1, ()), ())
  | none => some (0, false, r, ())) else none
def rnext (b : List Int) : Option (Int × Int × Unit) :=
 bif bytesB (b.take 5) then (match decF 5 0 0 b with
  | some (v, n, true) => some ((v : Int), (n : Int), ())
  | _ => some (0, 0, ())) else none
def rin (l : List Int) (x : Int) : Option (Bool × Unit) := bif decide (l.length < 9223372036854775807) then some (l.contains x, ()) else none
def iargs (o : Int) : Int :=
 bif ([1, 3, 4, 18, 19, 22, 23, 29, 30, 31, 34] : List Int).contains o then 1
 else bif o == 27 || (o == 28 || o == 32) then 2
 else bif decide (o < 1) || decide (o > 34) then -1 else 0
def rargs (o : Int) : Int := iargs o
abbrev Ins := Int × Int × Int × Unit
def within (n c a : Int) : Bool := bif decide (a ≥ c) then n == 0 else decide (n ≥ 0) && decide (n ≤ 255)
def igood (i : Ins) : Bool := decide (iargs i.1 ≥ 0) && (within i.2.1 (iargs i.1) 0 && within i.2.2.1 (iargs i.1) 1)
def rinstr (i : Ins) : Bool := igood i
def iput (b : List Int) (i : Ins) : Option (List Int × Unit) :=
 (put b i.1).bind fun r => bif decide (iargs i.1 < 1) then some r else (put r.1 i.2.1).bind fun r => bif decide (iargs i.1 < 2) then some r else put r.1 i.2.2.1
end Go.Pli

namespace Go.Pli
open Go Go.PM
theorem w64' {n : Int} (h0 : -9223372036854775808 ≤ n) (h1 : n < 9223372036854775808) : IntKind.i64.wrap n = n := by
 rw [IntKind.wrap_i64]; omega
theorem wsucc {k n : Nat} (h : k < n) (hn : n ≤ lenMax) : IntKind.i64.wrap ((k : Int) + 1) = ((k + 1 : Nat) : Int) := by
 simp only [lenMax] at hn
 rw [w64'] <;> omega
theorem dlt {k n : Nat} (h : k < n) : decide ((k : Int) < (n : Int)) = true := decide_eq_true (by omega)
theorem dnlt (n : Nat) : decide ((n : Int) < (n : Int)) = false := decide_eq_false (by omega)
theorem dge (k : Nat) : decide (0 ≤ (k : Int)) = true := decide_eq_true (by omega)
theorem dge0 (k : Nat) : decide ((k : Int) ≥ 0) = true := decide_eq_true (by omega)
theorem loopF_step {S R : Type} (L : S → (S → Option R) → Option R) (n : Nat) (s : S) : loopF L (n + 1) s = L s (loopF L n) := rfl
theorem loop_all {α σ R : Type} {L : σ → (σ → Option R) → Option R} {xs : List α} {st : Nat → σ} {p : α → Bool} {ex fin : Option R}
  (h1 : ∀ (k : Nat) (x : α) (rec), xs[k]? = some x → k < xs.length → L (st k) rec = bif p x then rec (st (k + 1)) else ex)
  (h2 : ∀ rec, L (st xs.length) rec = fin) : ∀ F : Nat, xs.length < F → loopF L F (st 0) = bif xs.all p then fin else ex := by
 have key : ∀ (l pre : List α) (F : Nat), xs = pre ++ l → l.length < F → loopF L F (st pre.length) = bif l.all p then fin else ex := by
  intro l
  induction l with
  | nil =>
   intro pre F hx hF
   obtain ⟨F, rfl⟩ : ∃ n, F = n + 1 := ⟨F - 1, by simp at hF; omega⟩
   rw [List.append_nil] at hx
   subst hx
   rw [loopF_step, h2]
   rfl
  | cons x l ih =>
   intro pre F hx hF
   obtain ⟨F, rfl⟩ : ∃ n, F = n + 1 := ⟨F - 1, by simp at hF; omega⟩
   have hk : xs[pre.length]? = some x := by rw [hx]; simp
   have hl : pre.length < xs.length := by rw [hx]; simp
   rw [loopF_step, h1 pre.length x _ hk hl]
   have := ih (pre ++ [x]) F (by rw [hx]; simp) (by simp only [List.length_cons] at hF; omega)
   simp only [List.length_append, List.length_cons, List.length_nil, Nat.zero_add] at this
   rw [this, List.all_cons]
   cases p x <;> rfl
 intro F hF
 exact key xs [] F rfl hF
def indexF {α : Type} (p : α → Bool) : Nat → List α → Int
 | _, [] => -1
 | k, x :: l => bif p x then (k : Int) else indexF p (k + 1) l
theorem indexF_any {α : Type} (p : α → Bool) : ∀ (l : List α) (k : Nat), decide (indexF p k l ≥ 0) = l.any p
 | [], _ => rfl
 | x :: l, k => by
  simp only [indexF, List.any_cons]
  by_cases hp : p x = true
  ·simp [hp]
  ·have hp : p x = false := by simpa using hp
   simpa [hp] using indexF_any p l (k + 1)
theorem loop_index {α σ : Type} {L : σ → (σ → Option (Int × Unit)) → Option (Int × Unit)} {xs : List α} {st : Nat → σ} {p : α → Bool}
  (h1 : ∀ (k : Nat) (x : α) (rec), xs[k]? = some x → k < xs.length → L (st k) rec = bif p x then some ((k : Int), ()) else rec (st (k + 1)))
  (h2 : ∀ rec, L (st xs.length) rec = some (-1, ())) : ∀ F : Nat, xs.length < F → loopF L F (st 0) = some (indexF p 0 xs, ()) := by
 have key : ∀ (l pre : List α) (F : Nat), xs = pre ++ l → l.length < F → loopF L F (st pre.length) = some (indexF p pre.length l, ()) := by
  intro l
  induction l with
  | nil =>
   intro pre F hx hF
   obtain ⟨F, rfl⟩ : ∃ n, F = n + 1 := ⟨F - 1, by simp at hF; omega⟩
   rw [List.append_nil] at hx
   subst hx
   rw [loopF_step, h2]
   rfl
  | cons x l ih =>
   intro pre F hx hF
   obtain ⟨F, rfl⟩ : ∃ n, F = n + 1 := ⟨F - 1, by simp at hF; omega⟩
   have hk : xs[pre.length]? = some x := by rw [hx]; simp
   have hl : pre.length < xs.length := by rw [hx]; simp
   rw [loopF_step, h1 pre.length x _ hk hl]
   have := ih (pre ++ [x]) F (by rw [hx]; simp) (by simp only [List.length_cons] at hF; omega)
   simp only [List.length_append, List.length_cons, List.length_nil, Nat.zero_add] at this
   simp only [indexF, this]
   cases p x <;> rfl
 intro F hF
 exact key xs [] F rfl hF
theorem getD_some {α : Type} {xs : List α} {k : Nat} {x d : α} (h : xs[k]? = some x) : xs.getD k d = x := by simp [h]
theorem all_zip_eq {α : Type} [BEq α] [LawfulBEq α] (d : α) : ∀ (a b : List α), a.length = b.length → (∀ k, k < a.length → (a.getD k d == b.getD k d) = true) → a = b := by
 intro a b hl h
 apply List.ext_getElem hl
 intro k h1 h2
 have := h k h1
 simpa [h1, h2] using this
end Go.Pli

namespace Go.Pli
open Go Go.PM
def newN (b : List Int) : List Int × Bool × Unit :=
 (b, false, ())
def nextL1 (r : List Int × Bool × Unit) (s1 : Int × Int × Unit) (rec2 : (Int × Int × Unit) → Option (Int × Bool × (List Int × Bool × Unit) × Unit)) : Option (Int × Bool × (List Int × Bool × Unit) × Unit) :=
 bif decide (s1.2.1 < (r.1.length : Int)) then
  bif decide (0 ≤ s1.2.1) && decide (s1.2.1 < r.1.length) then
   bif s1.2.1 == 5 then
    some ((0 : Int), false, r, ())
   else bif !decide (IntKind.i64.wrap ((7 : Int) * s1.2.1) < 0) then
    bif decide (r.1.getD s1.2.1.toNat 0 < 128) then
     bif decide (0 ≤ IntKind.i64.wrap (s1.2.1 + 1)) && decide (IntKind.i64.wrap (s1.2.1 + 1) ≤ (r.1.length : Int)) && decide ((r.1.length : Int) ≤ (r.1.length : Int)) then
      bif s1.2.1 == 0 then
       some (IntKind.u64.wrap ((BitVec.ofInt 64 s1.1 ||| BitVec.ofInt 64 (IntKind.u64.wrap ((IntKind.u64.wrap ((r.1.getD s1.2.1.toNat 0).tmod 128)) * 2 ^ (min (IntKind.i64.wrap ((7 : Int) * s1.2.1)).toNat 64)))).toNat), true, ((r.1.take r.1.length).drop (IntKind.i64.wrap (s1.2.1 + 1)).toNat, r.2), ())
      else some (IntKind.u64.wrap ((BitVec.ofInt 64 s1.1 ||| BitVec.ofInt 64 (IntKind.u64.wrap ((IntKind.u64.wrap ((r.1.getD s1.2.1.toNat 0).tmod 128)) * 2 ^ (min (IntKind.i64.wrap ((7 : Int) * s1.2.1)).toNat 64)))).toNat), decide (r.1.getD s1.2.1.toNat 0 > 0), ((r.1.take r.1.length).drop (IntKind.i64.wrap (s1.2.1 + 1)).toNat, r.2), ())
     else none
    else rec2 (IntKind.u64.wrap ((BitVec.ofInt 64 s1.1 ||| BitVec.ofInt 64 (IntKind.u64.wrap ((IntKind.u64.wrap ((r.1.getD s1.2.1.toNat 0).tmod 128)) * 2 ^ (min (IntKind.i64.wrap ((7 : Int) * s1.2.1)).toNat 64)))).toNat), IntKind.i64.wrap (s1.2.1 + 1), ())
   else none
  else none
 else some ((0 : Int), false, r, ())
def nextN (fuel : Nat) (r : List Int × Bool × Unit) : Option (Int × Bool × (List Int × Bool × Unit) × Unit) :=
 loopF (nextL1 r) fuel ((0 : Int), ((0 : Int), ()))
def getN (r : List Int × Bool × Unit) (n : Int) : Option (Int × (List Int × Bool × Unit) × Unit) :=
 bif r.2.1 then
  some ((0 : Int), r, ())
 else 
  (next r).bind fun r1 =>
  bif !r1.2.1 then
   some ((0 : Int), (r1.2.2.1.1, true, ()), ())
  else bif decide (n < 0) then
   some ((0 : Int), (r1.2.2.1.1, true, ()), ())
  else bif decide (r1.1 > IntKind.u64.wrap n) then
   some ((0 : Int), (r1.2.2.1.1, true, ()), ())
  else some (IntKind.i64.wrap r1.1, r1.2.2.1, ())
def glongN (r : List Int × Bool × Unit) : Option (Int × (List Int × Bool × Unit) × Unit) :=
 (getN r (4294967295 : Int)).bind fun r1 =>
 some (IntKind.i32.wrap ((BitVec.ofInt 32 (IntKind.i32.wrap ((IntKind.u32.wrap r1.1).fdiv 2)) ^^^ BitVec.ofInt 32 (IntKind.i32.wrap (0 - (IntKind.i32.wrap (IntKind.u32.wrap ((BitVec.ofInt 32 (IntKind.u32.wrap r1.1) &&& BitVec.ofInt 32 1).toNat)))))).toNat), r1.2.1, ())
def finN (r : List Int × Bool × Unit) : Option (Bool × (List Int × Bool × Unit) × Unit) :=
 bif !r.2.1 then
  some ((r.1.length : Int) == 0, r, ())
 else some (false, r, ())
def rbytesL1 (s3 : Int × List Int × Unit) (rec4 : (Int × List Int × Unit) → Option (List Int × Unit)) : Option (List Int × Unit) :=
 bif decide (s3.1 ≥ 128) then
  bif decide (s3.2.1.length + [IntKind.u8.wrap (IntKind.i64.wrap ((128 : Int) + (s3.1.tmod 128)))].length < rowMax) then
   rec4 (IntKind.i64.wrap (s3.1.tdiv 128), (s3.2.1 ++ [IntKind.u8.wrap (IntKind.i64.wrap ((128 : Int) + (s3.1.tmod 128)))], ()))
  else none
 else bif decide (s3.2.1.length + [IntKind.u8.wrap s3.1].length < rowMax) then
  some (s3.2.1 ++ [IntKind.u8.wrap s3.1], ())
 else none
def rbytesN (fuel : Nat) (n : Int) : Option (List Int × Unit) :=
 (bif decide (n < 0) then
  some (.inl ((0 : Int), ()))
 else some (.inl (n, ())) : Option ((Int × Unit) ⊕ (List Int × Unit))).bind fun q => match q with
 | .inr r2 => some r2
 | .inl s1 =>
  loopF rbytesL1 fuel (s1.1, (([] : List Int), ()))
def rsignedN (n : Int) : Option (List Int × Unit) :=
 bif decide (n < 0) then
  (rbytes (IntKind.i64.wrap ((IntKind.i64.wrap ((-2 : Int) * (IntKind.i64.wrap n))) - 1))).bind fun r1 =>
  some (r1.1, ())
 else 
  (rbytes (IntKind.i64.wrap ((2 : Int) * (IntKind.i64.wrap n)))).bind fun r2 =>
  some (r2.1, ())
def rinL1 (l : List Int) (x : Int) (s1 : Int × Unit) (rec2 : (Int × Unit) → Option (Bool × Unit)) : Option (Bool × Unit) :=
 bif decide (s1.1 < (l.length : Int)) then
  bif decide (0 ≤ s1.1) && decide (s1.1 < l.length) then
   bif (l.getD s1.1.toNat 0) == x then
    some (true, ())
   else rec2 (IntKind.i64.wrap (s1.1 + 1), ())
  else none
 else some (false, ())
def rinN (fuel : Nat) (l : List Int) (x : Int) : Option (Bool × Unit) :=
 loopF (rinL1 l x) fuel ((0 : Int), ())
def rargsN (o : Int) : Option (Int × Unit) :=
 bif decide (o < 1) then
  some ((-1 : Int), ())
 else bif decide (o > 34) then
  some ((-1 : Int), ())
 else 
  (rin ([1, 3, 4, 18, 19, 22, 23, 29, 30, 31, 34] : List Int) o).bind fun r1 =>
  bif r1.1 then
   some ((1 : Int), ())
  else bif o == 27 then
   some ((2 : Int), ())
  else bif o == 28 then
   some ((2 : Int), ())
  else bif o == 32 then
   some ((2 : Int), ())
  else some ((0 : Int), ())
def iargsN (o : Int) : Option (Int × Unit) :=
 (bif o == 1 then
  some (.inl (true, ()))
 else bif o == 3 then
  some (.inl (true, ()))
 else bif o == 4 then
  some (.inl (true, ()))
 else bif o == 18 then
  some (.inl (true, ()))
 else bif o == 19 then
  some (.inl (true, ()))
 else bif o == 22 then
  some (.inl (true, ()))
 else bif o == 23 then
  some (.inl (true, ()))
 else bif o == 29 then
  some (.inl (true, ()))
 else bif o == 30 then
  some (.inl (true, ()))
 else bif o == 31 then
  some (.inl (true, ()))
 else some (.inl (o == 34, ())) : Option ((Bool × Unit) ⊕ (Int × Unit))).bind fun q => match q with
 | .inr r2 => some r2
 | .inl s1 =>
  bif s1.1 then
   some ((1 : Int), ())
  else bif o == 27 then
   some ((2 : Int), ())
  else bif o == 28 then
   some ((2 : Int), ())
  else bif o == 32 then
   some ((2 : Int), ())
  else bif decide (o < 1) then
   some ((-1 : Int), ())
  else bif decide (o > 34) then
   some ((-1 : Int), ())
  else some ((0 : Int), ())
def withinN (n : Int) (c : Int) (a : Int) : Option (Bool × Unit) :=
 bif decide (a ≥ c) then
  some (n == 0, ())
 else bif decide (n ≥ 0) then
  some (decide (n ≤ 255), ())
 else some (false, ())
def igoodN (i : Int × Int × Int × Unit) : Option (Bool × Unit) :=
 bif decide ((iargs i.1) ≥ 0) then
  bif (within i.2.1 (iargs i.1) (0 : Int)) then
   some ((within i.2.2.1 (iargs i.1) (1 : Int)), ())
  else some (false, ())
 else some (false, ())
def igetN (r : List Int × Bool × Unit) : Option ((Int × Int × Int × Unit) × (List Int × Bool × Unit) × Unit) :=
 (getN r (34 : Int)).bind fun r1 =>
 bif decide ((iargs r1.1) > 0) then
  (getN r1.2.1 (255 : Int)).bind fun r2 =>
  bif decide ((iargs r1.1) > 1) then
   (getN r2.2.1 (255 : Int)).bind fun r3 =>
   some ((r1.1, r2.1, r3.1, ()), r3.2.1, ())
  else some ((r1.1, r2.1, ((0 : Int), ())), r2.2.1, ())
 else bif decide ((iargs r1.1) > 1) then
  (getN r1.2.1 (255 : Int)).bind fun r4 =>
  some ((r1.1, ((0 : Int), r4.1, ())), r4.2.1, ())
 else some ((r1.1, ((0 : Int), ((0 : Int), ()))), r1.2.1, ())
def rinstrN (i : Int × Int × Int × Unit) : Option (Bool × Unit) :=
 (bif decide ((rargs i.1) < 0) then
  some (.inr (false, ()))
 else bif decide ((rargs i.1) < 1) then
  bif i.2.1 != 0 then
   some (.inr (false, ()))
  else bif decide ((rargs i.1) < 2) then
   bif i.2.2.1 != 0 then
    some (.inr (false, ()))
   else some (.inl ())
  else some (.inl ())
 else bif decide ((rargs i.1) < 2) then
  bif i.2.2.1 != 0 then
   some (.inr (false, ()))
  else some (.inl ())
 else some (.inl ()) : Option (Unit ⊕ (Bool × Unit))).bind fun q => match q with
 | .inr r2 => some r2
 | .inl _ =>
  bif decide (i.2.1 ≥ 0) then
   bif decide (i.2.1 ≤ 255) then
    bif decide (i.2.2.1 ≥ 0) then
     some (decide (i.2.2.1 ≤ 255), ())
    else some (false, ())
   else some (false, ())
  else some (false, ())
def instRowL1 (l : List (Int × Int × Int × Unit)) (s3 : List Int × Int × Int × Unit) (rec4 : (List Int × Int × Int × Unit) → Option ((List Int × Int × Unit) ⊕ (Bool × Unit))) : Option ((List Int × Int × Unit) ⊕ (Bool × Unit)) :=
 bif decide (s3.2.2.1 < (l.length : Int)) then
  bif decide (s3.2.2.1 < 60) then
   bif decide (0 ≤ s3.2.2.1) && decide (s3.2.2.1 < l.length) then
    bif (igood (l.getD s3.2.2.1.toNat ((0 : Int), ((0 : Int), ((0 : Int), ()))))) then
     bif decide (0 ≤ s3.2.2.1) && decide (s3.2.2.1 < l.length) then
      (iput s3.1 (l.getD s3.2.2.1.toNat ((0 : Int), ((0 : Int), ((0 : Int), ()))))).bind fun r5 =>
      rec4 (r5.1, IntKind.i64.wrap (s3.2.1 + 1), IntKind.i64.wrap (s3.2.2.1 + 1), ())
     else none
    else rec4 (s3.1, s3.2.1, IntKind.i64.wrap (s3.2.2.1 + 1), ())
   else none
  else some (.inl (s3.1, s3.2.1, ()))
 else some (.inl (s3.1, s3.2.1, ()))
end Go.Pli

namespace Go.Pli
open Go Go.PM
abbrev Tp := Int × Int × Unit
abbrev Cl := Int × List Tp × List Int × Unit
abbrev Mt := List Tp × List Tp × Tp × List Ins × Int × Int × List Int × Unit
abbrev Im := List Cl × List Tp × List Int × List Mt × List Int × Int × Int × Unit
abbrev zTp : Tp := (0, 0, ())
abbrev zIns : Ins := (0, 0, 0, ())
abbrev zCl : Cl := (0, [], [], ())
abbrev zMt : Mt := ([], [], zTp, [], 0, 0, [], ())
abbrev zIm : Im := ([], [], [], [], [], 0, 0, ())
def idL {α : Type} (s : List α) : List α := s
def eqL {α : Type} [BEq α] (a b : List α) : Bool := a == b
def iwithin (n m : Int) : Bool := decide (0 ≤ n) && decide (n ≤ m)
def ityp (t : Tp) : Bool := iwithin t.1 5 && (t.2.1 == 0 || (t.1 == 3 && iwithin t.2.1 7))
def ityp1 (t : Tp) : Bool := !ityp t
def itypes (l : List Tp) (m : Int) : Bool := decide ((l.length : Int) ≤ m) && l.all ityp
def inum1 (n m : Int) : Bool := !iwithin n m
def inums (l : List Int) (c m : Int) : Bool := decide ((l.length : Int) ≤ c) && l.all fun n => iwithin n m
def imethod (x : Mt) : Bool :=
 itypes x.1 4 && (itypes x.2.1 8 && (ityp x.2.2.1 && (decide ((x.2.2.2.1.length : Int) ≤ 64) && (x.2.2.2.1.all igood && (iwithin x.2.2.2.2.1 8 && (iwithin x.2.2.2.2.2.1 4096 && inums x.2.2.2.2.2.2.1 64 4096))))))
def iclass (x : Cl) : Bool := decide (-1 ≤ x.1) && (decide (x.1 < 8) && (itypes x.2.1 8 && inums x.2.2.1 4 11))
def ifits1 (x : Cl) : Bool := !iclass x
def ifits2 (x : Mt) : Bool := !imethod x
def ifits (m : Im) : Bool :=
 decide ((m.1.length : Int) ≤ 8) && (itypes m.2.1 8 && (decide ((m.2.2.1.length : Int) ≤ 16) && (decide ((m.2.2.2.1.length : Int) ≤ 12) && (m.1.all iclass && (m.2.2.2.1.all imethod &&
  (inums m.2.2.2.2.1 12 11 && (iwithin m.2.2.2.2.2.1 4096 && iwithin m.2.2.2.2.2.2.1 4096)))))))
def indexClass (l : List Cl) (_ : Unit) : Int := indexF ifits1 0 l
def indexMethod (l : List Mt) (_ : Unit) : Int := indexF ifits2 0 l
def indexTypes (l : List Tp) (_ : Unit) : Int := indexF ityp1 0 l
def indexNums (l : List Int) (c : Int × Unit) : Int := indexF (fun n => inum1 n c.1) 0 l
def containsClass (l : List Cl) (_ : Unit) : Bool := l.any ifits1
def containsMethod (l : List Mt) (_ : Unit) : Bool := l.any ifits2
def containsTypes (l : List Tp) (_ : Unit) : Bool := l.any ityp1
def containsNums (l : List Int) (c : Int × Unit) : Bool := l.any fun n => inum1 n c.1
def r5in (n a b : Int) : Bool := decide (a ≤ n) && decide (n ≤ b)
def r5list (l : List Int) (c m : Int) : Bool := inums l c m
def r5typ (t : Tp) : Bool := ityp t
def r5types (l : List Tp) (c : Int) : Bool := itypes l c
def r5fits (m : Im) : Bool := ifits m
def kgood (t : Tp) (n : Int) : Bool := bif t.1 == 1 || t.1 == 2 then t.2.1 == 0 else t.1 == 3 && (decide (0 ≤ t.2.1) && decide (t.2.1 < n))
def kisref (t : Tp) : Bool := t.1 == 2 || (t.1 == 3 || t.1 == 4)
def supC (l : List Cl) (c : Int) : Int := (l.getD c.toNat zCl).1
def kup (l : List Cl) (c : Int) : Int := bif decide (c < 0) || (decide (c ≥ (l.length : Int)) || decide (supC l c ≥ c)) then -1 else supC l c
def chainF (l : List Cl) : Nat → Int → List Int
 | 0, _ => []
 | n + 1, c => bif decide (c < 0) then [] else c :: chainF l n (kup l c)
def chain (l : List Cl) (c : Int) : List Int := chainF l (c.toNat + 1) c
def kbelow (l : List Cl) (a b : Int) : Bool := decide (0 ≤ b) && (decide (b < (l.length : Int)) && (decide (a < (l.length : Int)) && (chain l a).contains b))
def ksub (l : List Cl) (a b : Tp) : Bool := bif a.1 == 4 then kisref b else bif a.1 == 3 && b.1 == 3 then kbelow l a.2.1 b.2.1 else a == b && (a.1 == 1 || a.1 == 2)
def okL {α : Type} (l : List α) : Bool := Nat.blt l.length 1000000
def raboveB (l : List Cl) (c : Int) : List Int := bif decide (c < (l.length : Int)) then chain l c else []
def rabove (l : List Cl) (c : Int) : Option (List Int × Unit) := bif okL l then some (raboveB l c, ()) else none
def rtypes (a b : List Tp) : Bool := a == b
def rints (a b : List Int) : Bool := a == b
def r5same (a b : Im) : Bool := a == b
def icopy (m : Im) : Option (Im × Unit) := bif ifits m then some (m, ()) else none
def sin (n c : Int) : Bool := decide (0 ≤ n) && decide (n < c)
def goods (m : Im) (l : List Tp) : Bool := l.all fun t => kgood t (m.1.length : Int)
def sall (m : Im) (l : List (List Tp)) : Bool := l.all (goods m)
def clOf (m : Im) (c : Int) : Cl := m.1.getD c.toNat zCl
def mtOf (m : Im) (f : Int) : Mt := m.2.2.2.1.getD f.toNat zMt
def sumL : List Nat → Nat
 | [] => 0
 | n :: l => n + sumL l
def fieldsC (m : Im) (c : Int) : Nat := sumL ((chain m.1 c).map fun s => (clOf m s).2.1.length)
def upSlots (m : Im) (c : Int) : List Int := bif decide (0 ≤ supC m.1 c) then (clOf m (supC m.1 c)).2.2.1 else []
def alike (a b : Mt) : Bool := decide (0 < a.1.length) && (decide (0 < b.1.length) && (a.1.drop 1 == b.1.drop 1 && a.2.2.1 == b.2.2.1))
def salike (a b : Mt) : Bool := alike a b
def fitsB (m : Im) (c f : Int) : Bool := decide (0 < (mtOf m f).1.length) && ksub m.1 (3, c, ()) ((mtOf m f).1.getD 0 zTp)
def slotB (m : Im) (c : Int) (n : Nat) (f : Int) : Bool :=
 sin f (m.2.2.2.1.length : Int) && (fitsB m c f && (!decide (n < (upSlots m c).length) || alike (mtOf m f) (mtOf m ((upSlots m c).getD n 0))))
def allN {α : Type} (p : Nat → α → Bool) : Nat → List α → Bool
 | _, [] => true
 | k, x :: l => p k x && allN p (k + 1) l
def classB (m : Im) (c : Int) : Bool :=
 decide (supC m.1 c < c) && (goods m (clOf m c).2.1 && (decide (fieldsC m c ≤ 8) && (decide ((upSlots m c).length ≤ (clOf m c).2.2.1.length) && allN (slotB m c) 0 (clOf m c).2.2.1)))
def ahead (m : Im) (c : Int) : Bool := (List.range c.toNat).all fun k => classB m (k : Int)
def preC (m : Im) (c : Int) : Bool := ifits m && (decide (0 ≤ c) && (decide (c < (m.1.length : Int)) && ahead m c))
def allC (m : Im) : Bool := (List.range m.1.length).all fun k => classB m (k : Int)
def upFields (m : Im) (c : Int) : Nat := sumL ((chain m.1 (supC m.1 c)).map fun s => (clOf m s).2.1.length)
def sabove (m : Im) (c : Int) : Option (Int × List Int × Unit) := bif preC m c && decide (supC m.1 c < c) then some ((upFields m c : Int), upSlots m c, ()) else none
def sfits (m : Im) (c f : Int) : Option (Bool × Unit) := bif sin f (m.2.2.2.1.length : Int) then some (fitsB m c f, ()) else none
def sclass (m : Im) (c : Int) : Option (Bool × Unit) := bif preC m c then some (classB m c, ()) else none
def r5fields (m : Im) (c : Int) : Option (List Tp × Unit) := bif ifits m then some ((((raboveB m.1 c).reverse).map fun s => (clOf m s).2.1).flatten, ()) else none
def sfields (c : Int) (m : Im) : Option (Int × Unit) := bif ifits m && (allC m && sin c (m.1.length : Int)) then some ((fieldsC m c : Int), ()) else none
def instrB (m : Im) (x : Mt) (i : Ins) : Bool :=
 bif i.1 == 1 then sin i.2.1 (m.2.2.1.length : Int)
 else bif i.1 == 3 || i.1 == 4 then sin i.2.1 ((x.1.length + x.2.1.length : Nat) : Int)
 else bif i.1 == 18 || i.1 == 19 then sin i.2.1 (x.2.2.2.1.length : Int)
 else bif i.1 == 22 || i.1 == 34 then sin i.2.1 (m.1.length : Int)
 else bif i.1 == 27 || i.1 == 28 then sin i.2.1 (m.1.length : Int) && sin i.2.2.1 (fieldsC m i.2.1 : Int)
 else bif i.1 == 29 || i.1 == 30 then sin i.2.1 (m.2.1.length : Int)
 else bif i.1 == 31 then sin i.2.1 (m.2.2.2.1.length : Int)
 else bif i.1 == 32 then sin i.2.1 (m.1.length : Int) && sin i.2.2.1 ((clOf m i.2.1).2.2.1.length : Int)
 else true
def preM (m : Im) (x : Mt) : Bool := ifits m && (allC m && imethod x)
def sinstr (m : Im) (x : Mt) (i : Ins) (f : Im × Unit) : Option (Bool × Unit) := bif preM m x && f.1 == m then some (instrB m x i, ()) else none
def methodB (m : Im) (x : Mt) : Bool :=
 goods m x.1 && (goods m x.2.1 && ((x.2.2.1 == (5, 0, ()) || kgood x.2.2.1 (m.1.length : Int)) && (decide (x.2.2.2.1.length ≠ 0) && (decide (x.2.2.2.2.2.2.1.length = x.2.2.2.1.length) &&
  (decide (x.1.length + x.2.1.length ≤ 8) && x.2.2.2.1.all (instrB m x))))))
def smethod (m : Im) (x : Mt) : Option (Bool × Unit) := bif preM m x then some (methodB m x, ()) else none
def sentry1 (t : Tp) : Bool := t.1 == 1 && t.2.1 == 0
def sentry2 (t : Tp) (_ : Unit) : Bool := !sentry1 t
def indexEntry (l : List Tp) (_ : Unit × Unit) : Int := indexF (fun t => sentry2 t ()) 0 l
def containsEntry (l : List Tp) (_ : Unit × Unit) : Bool := l.any fun t => sentry2 t ()
def entryB (m : Im) (f : Int) : Bool := sin f (m.2.2.2.1.length : Int) && ((sentry1 (mtOf m f).2.2.1 || (mtOf m f).2.2.1.1 == 5) && (mtOf m f).1.all sentry1)
def sentry (m : Im) (f : Int) : Option (Bool × Unit) := some (entryB m f, ())
def saneB (m : Im) : Bool := goods m m.2.1 && (allC m && (m.2.2.2.1.all (methodB m) && m.2.2.2.2.1.all (entryB m)))
def scheck (m : Im) : Int := bif ifits m then (bif saneB m then 0 else 3) else 2
def zgl (n : Int) : Nat := (if n < 0 then -2 * n - 1 else 2 * n).toNat
def encI (i : Ins) : List Int := enc i.1.toNat ++ ((bif decide (iargs i.1 < 1) then [] else enc i.2.1.toNat) ++ (bif decide (iargs i.1 < 2) then [] else enc i.2.2.1.toNat))
def encT (t : Tp) : List Int := enc t.1.toNat ++ (bif t.1 == 3 then enc t.2.1.toNat else [])
def encR {α : Type} (f : α → List Int) : List α → List Int
 | [] => []
 | x :: l => f x ++ encR f l
def encTs (l : List Tp) : List Int := enc l.length ++ encR encT l
def encN (n : Int) : List Int := enc n.toNat
def encNs (l : List Int) : List Int := enc l.length ++ encR encN l
def encM (x : Mt) : List Int := encTs x.1 ++ (encTs x.2.1 ++ (encT x.2.2.1 ++ (enc x.2.2.2.1.length ++ (encR encI x.2.2.2.1 ++ (encN x.2.2.2.2.1 ++ (encN x.2.2.2.2.2.1 ++ encNs x.2.2.2.2.2.2.1))))))
def encC (c : Cl) : List Int := encN (c.1 + 1) ++ (encTs c.2.1 ++ encNs c.2.2.1)
def encZ (n : Int) : List Int := enc (zgl n)
def encB (m : Im) : List Int :=
 enc m.1.length ++ (encR encC m.1 ++ (encTs m.2.1 ++ (enc m.2.2.1.length ++ (encR encZ m.2.2.1 ++ (enc m.2.2.2.1.length ++ (encR encM m.2.2.2.1 ++ (encNs m.2.2.2.2.1 ++ (encN m.2.2.2.2.2.1 ++ encN m.2.2.2.2.2.2.1))))))))
def mark : List Int := [112, 108, 105, 109]
def encIm (m : Im) : List Int := mark ++ encB m
def ints32 (l : List Int) : Bool := l.all fun n => decide (-2147483648 ≤ n) && decide (n ≤ 2147483647)
def r5one (t : Tp) : Option (List Int × Unit) := bif ityp t then some (encT t, ()) else none
def r5several (l : List Tp) : Option (List Int × Unit) := bif itypes l 8 then some (encTs l, ()) else none
def r5nums (l : List Int) : Option (List Int × Unit) := bif inums l 64 4096 then some (encNs l, ()) else none
def r5encode (m : Im) : Option (List Int × Unit) := bif ifits m && ints32 m.2.2.1 then some (encIm m, ()) else none
def repO {α : Type} (f : Rd → Option (α × Rd × Unit)) : Nat → Rd → Option (List α × Rd × Unit)
 | 0, r => some ([], r, ())
 | n + 1, r => (f r).bind fun q => (repO f n q.2.1).bind fun p => some (q.1 :: p.1, p.2.1, ())
def getType (r : Rd) : Option (Tp × Rd × Unit) :=
 (getN r 5).bind fun a => bif a.1 == 3 then (getN a.2.1 7).bind fun b => some ((a.1, b.1, ()), b.2.1, ()) else some ((a.1, 0, ()), a.2.1, ())
def getRow {α : Type} (f : Rd → Option (α × Rd × Unit)) (r : Rd) (m : Int) : Option (List α × Rd × Unit) := (getN r m).bind fun a => repO f a.1.toNat a.2.1
def getTypes (r : Rd) (m : Int) : Option (List Tp × Rd × Unit) := bif decide (m ≤ 1000) then getRow getType r m else none
def getNums (r : Rd) (c m : Int) : Option (List Int × Rd × Unit) := bif decide (c ≤ 1000) then getRow (fun r => getN r m) r c else none
def getMethod (r : Rd) : Option (Mt × Rd × Unit) :=
 (getTypes r 4).bind fun a => (getTypes a.2.1 8).bind fun b => (getType b.2.1).bind fun c => (getRow igetN c.2.1 64).bind fun d => (getN d.2.1 8).bind fun e => (getN e.2.1 4096).bind fun f =>
 (getNums f.2.1 64 4096).bind fun g => some ((a.1, b.1, c.1, d.1, e.1, f.1, g.1, ()), g.2.1, ())
def getClass (r : Rd) : Option (Cl × Rd × Unit) :=
 (getN r 8).bind fun a => (getTypes a.2.1 8).bind fun b => (getNums b.2.1 4 11).bind fun c => some ((IntKind.i64.wrap (a.1 - 1), b.1, c.1, ()), c.2.1, ())
def getImg (r : Rd) : Option (Im × Rd × Unit) :=
 (getRow getClass r 8).bind fun a => (getTypes a.2.1 8).bind fun b => (getRow glongN b.2.1 16).bind fun c => (getRow getMethod c.2.1 12).bind fun d => (getNums d.2.1 12 11).bind fun e =>
 (getN e.2.1 4096).bind fun f => (getN f.2.1 4096).bind fun g => some ((a.1, b.1, c.1, d.1, e.1, f.1, g.1, ()), g.2.1, ())
def idecode (b : List Int) : Option (Im × Int × Unit) :=
 bif decide ((b.length : Int) > 8192) || (decide ((b.length : Int) < 4) || !((strOfNums (b.take 4)).toList == (⟨#[112, 108, 105, 109]⟩ : ByteArray).toList)) then some (zIm, 2, ())
 else (getImg (newN (b.drop 4))).bind fun q => (finN q.2.1).bind fun f => bif !f.1 || !ifits q.1 then some (zIm, 2, ()) else some (q.1, 0, ())
def total5 (m : Im) : Nat := m.1.length + m.2.1.length + m.2.2.1.length + m.2.2.2.1.length + m.2.2.2.2.1.length
end Go.Pli

namespace Go.Pli
open Go Go.PM
def indexClassLen (l : List Cl) (_c : Unit) : Prop := (l.length ≤ lenMax ∧ ∀ x1 : Cl, x1 ∈ l → (True ∧ ((x1.2.1.length ≤ lenMax ∧ ∀ x2 : Tp, x2 ∈ x1.2.1 → (True ∧ (True ∧ True))) ∧ ((x1.2.2.1.length ≤ lenMax ∧ ∀ x2 : Int, x2 ∈ x1.2.2.1 → True) ∧ True)))) ∧ True ∧ True
def indexClassL1 (l : List Cl) (s1 : Int × Unit) (rec2 : (Int × Unit) → Option (Int × Unit)) : Option (Int × Unit) :=
 bif decide (s1.1 < (l.length : Int)) then
  bif decide (0 ≤ s1.1) && decide (s1.1 < l.length) then
   bif (ifits1 (l.getD s1.1.toNat zCl)) then
    some (s1.1, ())
   else rec2 (IntKind.i64.wrap (s1.1 + 1), ())
  else none
 else some ((-1 : Int), ())
def indexClassN (fuel : Nat) (l : List Cl) (_c : Unit) : Option (Int × Unit) :=
 loopF (indexClassL1 l) fuel ((0 : Int), ())
def containsClassLen (l : List Cl) (_c : Unit) : Prop := (l.length ≤ lenMax ∧ ∀ x1 : Cl, x1 ∈ l → (True ∧ ((x1.2.1.length ≤ lenMax ∧ ∀ x2 : Tp, x2 ∈ x1.2.1 → (True ∧ (True ∧ True))) ∧ ((x1.2.2.1.length ≤ lenMax ∧ ∀ x2 : Int, x2 ∈ x1.2.2.1 → True) ∧ True)))) ∧ True ∧ True
def containsClassN (l : List Cl) (c : Unit) : Option (Bool × Unit) :=
 some (decide ((indexClass l c) ≥ 0), ())
def indexMethodLen (l : List Mt) (_c : Unit) : Prop := (l.length ≤ lenMax ∧ ∀ x1 : Mt, x1 ∈ l → ((x1.1.length ≤ lenMax ∧ ∀ x2 : Tp, x2 ∈ x1.1 → (True ∧ (True ∧ True))) ∧ ((x1.2.1.length ≤ lenMax ∧ ∀ x2 : Tp, x2 ∈ x1.2.1 → (True ∧ (True ∧ True))) ∧ ((True ∧ (True ∧ True)) ∧ ((x1.2.2.2.1.length ≤ lenMax ∧ ∀ x2 : Ins, x2 ∈ x1.2.2.2.1 → (True ∧ (True ∧ (True ∧ True)))) ∧ (True ∧ (True ∧ ((x1.2.2.2.2.2.2.1.length ≤ lenMax ∧ ∀ x2 : Int, x2 ∈ x1.2.2.2.2.2.2.1 → True) ∧ True)))))))) ∧ True ∧ True
def indexMethodL1 (l : List Mt) (s1 : Int × Unit) (rec2 : (Int × Unit) → Option (Int × Unit)) : Option (Int × Unit) :=
 bif decide (s1.1 < (l.length : Int)) then
  bif decide (0 ≤ s1.1) && decide (s1.1 < l.length) then
   bif (ifits2 (l.getD s1.1.toNat zMt)) then
    some (s1.1, ())
   else rec2 (IntKind.i64.wrap (s1.1 + 1), ())
  else none
 else some ((-1 : Int), ())
def indexMethodN (fuel : Nat) (l : List Mt) (_c : Unit) : Option (Int × Unit) :=
 loopF (indexMethodL1 l) fuel ((0 : Int), ())
def containsMethodLen (l : List Mt) (_c : Unit) : Prop := (l.length ≤ lenMax ∧ ∀ x1 : Mt, x1 ∈ l → ((x1.1.length ≤ lenMax ∧ ∀ x2 : Tp, x2 ∈ x1.1 → (True ∧ (True ∧ True))) ∧ ((x1.2.1.length ≤ lenMax ∧ ∀ x2 : Tp, x2 ∈ x1.2.1 → (True ∧ (True ∧ True))) ∧ ((True ∧ (True ∧ True)) ∧ ((x1.2.2.2.1.length ≤ lenMax ∧ ∀ x2 : Ins, x2 ∈ x1.2.2.2.1 → (True ∧ (True ∧ (True ∧ True)))) ∧ (True ∧ (True ∧ ((x1.2.2.2.2.2.2.1.length ≤ lenMax ∧ ∀ x2 : Int, x2 ∈ x1.2.2.2.2.2.2.1 → True) ∧ True)))))))) ∧ True ∧ True
def containsMethodN (l : List Mt) (c : Unit) : Option (Bool × Unit) :=
 some (decide ((indexMethod l c) ≥ 0), ())
def indexTypesLen (l : List Tp) (_c : Unit) : Prop := (l.length ≤ lenMax ∧ ∀ x1 : Tp, x1 ∈ l → (True ∧ (True ∧ True))) ∧ True ∧ True
def indexTypesL1 (l : List Tp) (s1 : Int × Unit) (rec2 : (Int × Unit) → Option (Int × Unit)) : Option (Int × Unit) :=
 bif decide (s1.1 < (l.length : Int)) then
  bif decide (0 ≤ s1.1) && decide (s1.1 < l.length) then
   bif (ityp1 (l.getD s1.1.toNat zTp)) then
    some (s1.1, ())
   else rec2 (IntKind.i64.wrap (s1.1 + 1), ())
  else none
 else some ((-1 : Int), ())
def indexTypesN (fuel : Nat) (l : List Tp) (_c : Unit) : Option (Int × Unit) :=
 loopF (indexTypesL1 l) fuel ((0 : Int), ())
def containsTypesLen (l : List Tp) (_c : Unit) : Prop := (l.length ≤ lenMax ∧ ∀ x1 : Tp, x1 ∈ l → (True ∧ (True ∧ True))) ∧ True ∧ True
def containsTypesN (l : List Tp) (c : Unit) : Option (Bool × Unit) :=
 some (decide ((indexTypes l c) ≥ 0), ())
def indexEntryLen (l : List Tp) (_c : Unit × Unit) : Prop := (l.length ≤ lenMax ∧ ∀ x1 : Tp, x1 ∈ l → (True ∧ (True ∧ True))) ∧ (True ∧ True) ∧ True
def indexEntryL1 (l : List Tp) (c : Unit × Unit) (s1 : Int × Unit) (rec2 : (Int × Unit) → Option (Int × Unit)) : Option (Int × Unit) :=
 bif decide (s1.1 < (l.length : Int)) then
  bif decide (0 ≤ s1.1) && decide (s1.1 < l.length) then
   bif (sentry2 (l.getD s1.1.toNat zTp) c.1) then
    some (s1.1, ())
   else rec2 (IntKind.i64.wrap (s1.1 + 1), ())
  else none
 else some ((-1 : Int), ())
def indexEntryN (fuel : Nat) (l : List Tp) (c : Unit × Unit) : Option (Int × Unit) :=
 loopF (indexEntryL1 l c) fuel ((0 : Int), ())
def containsEntryLen (l : List Tp) (_c : Unit × Unit) : Prop := (l.length ≤ lenMax ∧ ∀ x1 : Tp, x1 ∈ l → (True ∧ (True ∧ True))) ∧ (True ∧ True) ∧ True
def containsEntryN (l : List Tp) (c : Unit × Unit) : Option (Bool × Unit) :=
 some (decide ((indexEntry l c) ≥ 0), ())
def indexNumsLen (l : List Int) (_c : Int × Unit) : Prop := (l.length ≤ lenMax ∧ ∀ x1 : Int, x1 ∈ l → True) ∧ (True ∧ True) ∧ True
def indexNumsL1 (l : List Int) (c : Int × Unit) (s1 : Int × Unit) (rec2 : (Int × Unit) → Option (Int × Unit)) : Option (Int × Unit) :=
 bif decide (s1.1 < (l.length : Int)) then
  bif decide (0 ≤ s1.1) && decide (s1.1 < l.length) then
   bif (inum1 (l.getD s1.1.toNat 0) c.1) then
    some (s1.1, ())
   else rec2 (IntKind.i64.wrap (s1.1 + 1), ())
  else none
 else some ((-1 : Int), ())
def indexNumsN (fuel : Nat) (l : List Int) (c : Int × Unit) : Option (Int × Unit) :=
 loopF (indexNumsL1 l c) fuel ((0 : Int), ())
def containsNumsLen (l : List Int) (_c : Int × Unit) : Prop := (l.length ≤ lenMax ∧ ∀ x1 : Int, x1 ∈ l → True) ∧ (True ∧ True) ∧ True
def containsNumsN (l : List Int) (c : Int × Unit) : Option (Bool × Unit) :=
 some (decide ((indexNums l c) ≥ 0), ())
def clipCN (s : List Cl) : Option (List Cl × Unit) :=
 bif decide ((s.length : Int) = (s.length : Int)) && decide ((s.length : Int) = (s.length : Int)) then
  some (s, ())
 else none
def clipMN (s : List Mt) : Option (List Mt × Unit) :=
 bif decide ((s.length : Int) = (s.length : Int)) && decide ((s.length : Int) = (s.length : Int)) then
  some (s, ())
 else none
def clipTN (s : List Tp) : Option (List Tp × Unit) :=
 bif decide ((s.length : Int) = (s.length : Int)) && decide ((s.length : Int) = (s.length : Int)) then
  some (s, ())
 else none
def clipIN (s : List Int) : Option (List Int × Unit) :=
 bif decide ((s.length : Int) = (s.length : Int)) && decide ((s.length : Int) = (s.length : Int)) then
  some (s, ())
 else none
def clipXN (s : List Ins) : Option (List Ins × Unit) :=
 bif decide ((s.length : Int) = (s.length : Int)) && decide ((s.length : Int) = (s.length : Int)) then
  some (s, ())
 else none
def clipJN (s : List Int) : Option (List Int × Unit) :=
 bif decide ((s.length : Int) = (s.length : Int)) && decide ((s.length : Int) = (s.length : Int)) then
  some (s, ())
 else none
def cloneTN (s : List Tp) : Option (List Tp × Unit) :=
 bif decide (([] : List Tp).length + s.length < rowMax) then
  some (([] : List Tp) ++ s, ())
 else none
def cloneJN (s : List Int) : Option (List Int × Unit) :=
 bif decide (([] : List Int).length + s.length < rowMax) then
  some (([] : List Int) ++ s, ())
 else none
def cloneIN (s : List Int) : Option (List Int × Unit) :=
 bif decide (([] : List Int).length + s.length < rowMax) then
  some (([] : List Int) ++ s, ())
 else none
def cloneXN (s : List Ins) : Option (List Ins × Unit) :=
 bif decide (([] : List Ins).length + s.length < rowMax) then
  some (([] : List Ins) ++ s, ())
 else none
def anTN (s : List Tp) : Option (List Tp × Unit) :=
 (cloneTN s).bind fun r1 =>
 some ((idL r1.1), ())
def anJN (s : List Int) : Option (List Int × Unit) :=
 (cloneJN s).bind fun r1 =>
 some ((idL r1.1), ())
def anIN (s : List Int) : Option (List Int × Unit) :=
 (cloneIN s).bind fun r1 =>
 some ((idL r1.1), ())
def anXN (s : List Ins) : Option (List Ins × Unit) :=
 (cloneXN s).bind fun r1 =>
 some ((idL r1.1), ())
def eqTLen (a : List Tp) (b : List Tp) : Prop := (a.length ≤ lenMax ∧ ∀ x1 : Tp, x1 ∈ a → (True ∧ (True ∧ True))) ∧ (b.length ≤ lenMax ∧ ∀ x1 : Tp, x1 ∈ b → (True ∧ (True ∧ True))) ∧ True
def eqTL1 (a : List Tp) (b : List Tp) (s1 : Int × Unit) (rec2 : (Int × Unit) → Option (Bool × Unit)) : Option (Bool × Unit) :=
 bif decide (s1.1 < (a.length : Int)) then
  bif decide (0 ≤ s1.1) && decide (s1.1 < a.length) then
   bif decide (0 ≤ s1.1) && decide (s1.1 < b.length) then
    bif !((((a.getD s1.1.toNat zTp).1) == ((b.getD s1.1.toNat zTp).1)) && ((((a.getD s1.1.toNat zTp).2.1) == ((b.getD s1.1.toNat zTp).2.1)) && true)) then
     some (false, ())
    else rec2 (IntKind.i64.wrap (s1.1 + 1), ())
   else none
  else none
 else some (true, ())
def eqTN (fuel : Nat) (a : List Tp) (b : List Tp) : Option (Bool × Unit) :=
 bif (a.length : Int) != (b.length : Int) then
  some (false, ())
 else loopF (eqTL1 a b) fuel ((0 : Int), ())
def eqJLen (a : List Int) (b : List Int) : Prop := (a.length ≤ lenMax ∧ ∀ x1 : Int, x1 ∈ a → True) ∧ (b.length ≤ lenMax ∧ ∀ x1 : Int, x1 ∈ b → True) ∧ True
def eqJL1 (a : List Int) (b : List Int) (s1 : Int × Unit) (rec2 : (Int × Unit) → Option (Bool × Unit)) : Option (Bool × Unit) :=
 bif decide (s1.1 < (a.length : Int)) then
  bif decide (0 ≤ s1.1) && decide (s1.1 < a.length) then
   bif decide (0 ≤ s1.1) && decide (s1.1 < b.length) then
    bif (a.getD s1.1.toNat 0) != (b.getD s1.1.toNat 0) then
     some (false, ())
    else rec2 (IntKind.i64.wrap (s1.1 + 1), ())
   else none
  else none
 else some (true, ())
def eqJN (fuel : Nat) (a : List Int) (b : List Int) : Option (Bool × Unit) :=
 bif (a.length : Int) != (b.length : Int) then
  some (false, ())
 else loopF (eqJL1 a b) fuel ((0 : Int), ())
def iwithinN (n : Int) (m : Int) : Option (Bool × Unit) :=
 bif decide (n ≥ 0) then
  some (decide (n ≤ m), ())
 else some (false, ())
def itypN (t : Tp) : Option (Bool × Unit) :=
 bif (iwithin t.1 (5 : Int)) then
  bif t.2.1 == 0 then
   some (true, ())
  else bif t.1 == 3 then
   some ((iwithin t.2.1 (7 : Int)), ())
  else some (false, ())
 else some (false, ())
def ityp1N (t : Tp) : Option (Bool × Unit) :=
 some (!(ityp t), ())
def itypesN (l : List Tp) (m : Int) : Option (Bool × Unit) :=
 bif decide ((l.length : Int) ≤ m) then
  some (!(containsTypes l ()), ())
 else some (false, ())
def inum1N (n : Int) (m : Int) : Option (Bool × Unit) :=
 some (!(iwithin n m), ())
def inumsN (l : List Int) (c : Int) (m : Int) : Option (Bool × Unit) :=
 bif decide ((l.length : Int) ≤ c) then
  some (!(containsNums l (m, ())), ())
 else some (false, ())
def imethodL1 (x : Mt) (s1 : Int × Unit) (rec2 : (Int × Unit) → Option (Bool × Unit)) : Option (Bool × Unit) :=
 bif decide (s1.1 < (x.2.2.2.1.length : Int)) then
  bif decide (0 ≤ s1.1) && decide (s1.1 < x.2.2.2.1.length) then
   bif !(igood (x.2.2.2.1.getD s1.1.toNat zIns)) then
    some (false, ())
   else rec2 (IntKind.i64.wrap (s1.1 + 1), ())
  else none
 else bif (iwithin x.2.2.2.2.1 (8 : Int)) then
  bif (iwithin x.2.2.2.2.2.1 (4096 : Int)) then
   some ((inums x.2.2.2.2.2.2.1 (64 : Int) (4096 : Int)), ())
  else some (false, ())
 else some (false, ())
def imethodN (fuel : Nat) (x : Mt) : Option (Bool × Unit) :=
 bif !(itypes x.1 (4 : Int)) then
  some (false, ())
 else bif !(itypes x.2.1 (8 : Int)) then
  some (false, ())
 else bif !(ityp x.2.2.1) then
  some (false, ())
 else bif decide ((x.2.2.2.1.length : Int) > 64) then
  some (false, ())
 else loopF (imethodL1 x) fuel ((0 : Int), ())
def iclassN (x : Cl) : Option (Bool × Unit) :=
 bif decide (x.1 ≥ (-1 : Int)) then
  bif decide (x.1 < 8) then
   bif (itypes x.2.1 (8 : Int)) then
    some ((inums x.2.2.1 (4 : Int) (11 : Int)), ())
   else some (false, ())
  else some (false, ())
 else some (false, ())
def ifits1N (x : Cl) : Option (Bool × Unit) :=
 some (!(iclass x), ())
def ifits2N (x : Mt) : Option (Bool × Unit) :=
 some (!(imethod x), ())
def ifitsN (m : Im) : Option (Bool × Unit) :=
 bif decide ((m.1.length : Int) > 8) then
  some (false, ())
 else bif !(itypes m.2.1 (8 : Int)) then
  some (false, ())
 else bif decide ((m.2.2.1.length : Int) > 16) then
  some (false, ())
 else bif decide ((m.2.2.2.1.length : Int) > 12) then
  some (false, ())
 else bif (containsClass m.1 ()) then
  some (false, ())
 else bif (containsMethod m.2.2.2.1 ()) then
  some (false, ())
 else bif (inums m.2.2.2.2.1 (12 : Int) (11 : Int)) then
  bif (iwithin m.2.2.2.2.2.1 (4096 : Int)) then
   some ((iwithin m.2.2.2.2.2.2.1 (4096 : Int)), ())
  else some (false, ())
 else some (false, ())
def getTypeN (r : List Int × Bool × Unit) : Option (Tp × (List Int × Bool × Unit) × Unit) :=
 (getN r (5 : Int)).bind fun r1 =>
 bif r1.1 == 3 then
  (getN r1.2.1 (7 : Int)).bind fun r2 =>
  some ((r1.1, r2.1, ()), r2.2.1, ())
 else some ((r1.1, ((0 : Int), ())), r1.2.1, ())
def getTypesL1 (r1 : Int × (List Int × Bool × Unit) × Unit) (s2 : List Tp × Int × (List Int × Bool × Unit) × Unit) (rec3 : (List Tp × Int × (List Int × Bool × Unit) × Unit) → Option (List Tp × (List Int × Bool × Unit) × Unit)) : Option (List Tp × (List Int × Bool × Unit) × Unit) :=
 bif decide (s2.2.1 < r1.1) then
  (getType s2.2.2.1).bind fun r4 =>
  bif decide (s2.1.length + [r4.1].length < rowMax) then
   rec3 (s2.1 ++ [r4.1], IntKind.i64.wrap (s2.2.1 + 1), r4.2.1, ())
  else none
 else some ((idL s2.1), s2.2.2.1, ())
def getTypesN (fuel : Nat) (r : List Int × Bool × Unit) (m : Int) : Option (List Tp × (List Int × Bool × Unit) × Unit) :=
 (getN r m).bind fun r1 =>
 loopF (getTypesL1 r1) fuel (([] : List Tp), ((0 : Int), r1.2.1, ()))
def getNumsL1 (m : Int) (r1 : Int × (List Int × Bool × Unit) × Unit) (s2 : List Int × Int × (List Int × Bool × Unit) × Unit) (rec3 : (List Int × Int × (List Int × Bool × Unit) × Unit) → Option (List Int × (List Int × Bool × Unit) × Unit)) : Option (List Int × (List Int × Bool × Unit) × Unit) :=
 bif decide (s2.2.1 < r1.1) then
  (getN s2.2.2.1 m).bind fun r4 =>
  bif decide (s2.1.length + [r4.1].length < rowMax) then
   rec3 (s2.1 ++ [r4.1], IntKind.i64.wrap (s2.2.1 + 1), r4.2.1, ())
  else none
 else some ((idL s2.1), s2.2.2.1, ())
def getNumsN (fuel : Nat) (r : List Int × Bool × Unit) (c : Int) (m : Int) : Option (List Int × (List Int × Bool × Unit) × Unit) :=
 (getN r c).bind fun r1 =>
 loopF (getNumsL1 m r1) fuel (([] : List Int), ((0 : Int), r1.2.1, ()))
def getMethodL1 (r4 : Int × (List Int × Bool × Unit) × Unit) (s5 : Int × (List Int × Bool × Unit) × (List Tp × List Tp × Int × Int × List Ins × Int × Int × List Int × Unit) × Unit) (rec6 : (Int × (List Int × Bool × Unit) × (List Tp × List Tp × Int × Int × List Ins × Int × Int × List Int × Unit) × Unit) → Option (Mt × (List Int × Bool × Unit) × Unit)) : Option (Mt × (List Int × Bool × Unit) × Unit) :=
 bif decide (s5.1 < r4.1) then
  (igetN s5.2.1).bind fun r7 =>
  bif decide (s5.2.2.1.2.2.2.2.1.length + [r7.1].length < rowMax) then
   rec6 (IntKind.i64.wrap (s5.1 + 1), r7.2.1, (s5.2.2.1.1, s5.2.2.1.2.1, s5.2.2.1.2.2.1, s5.2.2.1.2.2.2.1, s5.2.2.1.2.2.2.2.1 ++ [r7.1], s5.2.2.1.2.2.2.2.2), ())
  else none
 else 
  (getN s5.2.1 (8 : Int)).bind fun r8 =>
  (getN r8.2.1 (4096 : Int)).bind fun r9 =>
  (getNums r9.2.1 (64 : Int) (4096 : Int)).bind fun r10 =>
  some ((s5.2.2.1.1, s5.2.2.1.2.1, (s5.2.2.1.2.2.1, s5.2.2.1.2.2.2.1, ()), (idL s5.2.2.1.2.2.2.2.1), r8.1, r9.1, r10.1, ()), r10.2.1, ())
def getMethodN (fuel : Nat) (r : List Int × Bool × Unit) : Option (Mt × (List Int × Bool × Unit) × Unit) :=
 (getTypes r (4 : Int)).bind fun r1 =>
 (getTypes r1.2.1 (8 : Int)).bind fun r2 =>
 (getType r2.2.1).bind fun r3 =>
 (getN r3.2.1 (64 : Int)).bind fun r4 =>
 loopF (getMethodL1 r4) fuel ((0 : Int), r4.2.1, (r1.1, r2.1, r3.1.1, r3.1.2.1, (([] : List Ins), ((0 : Int), ((0 : Int), (([] : List Int), ()))))), ())
def idecodeL1 (r12 : Int × (List Int × Bool × Unit) × Unit) (s13 : Int × (List Int × Bool × Unit) × (List Cl × List Tp × List Int × List Mt × List Int × Int × Int × Unit) × Unit) (rec14 : (Int × (List Int × Bool × Unit) × (List Cl × List Tp × List Int × List Mt × List Int × Int × Int × Unit) × Unit) → Option (Im × Int × Unit)) : Option (Im × Int × Unit) :=
 bif decide (s13.1 < r12.1) then
  (getMethod s13.2.1).bind fun r15 =>
  bif decide (s13.2.2.1.2.2.2.1.length + [r15.1].length < rowMax) then
   rec14 (IntKind.i64.wrap (s13.1 + 1), r15.2.1, (s13.2.2.1.1, s13.2.2.1.2.1, s13.2.2.1.2.2.1, s13.2.2.1.2.2.2.1 ++ [r15.1], s13.2.2.1.2.2.2.2), ())
  else none
 else 
  (getNums s13.2.1 (12 : Int) (11 : Int)).bind fun r16 =>
  (getN r16.2.1 (4096 : Int)).bind fun r17 =>
  (getN r17.2.1 (4096 : Int)).bind fun r18 =>
  (finN r18.2.1).bind fun r19 =>
  bif !r19.1 then
   some ((([] : List Cl), (([] : List Tp), (([] : List Int), (([] : List Mt), (([] : List Int), ((0 : Int), ((0 : Int), ()))))))), ((2 : Int), ()))
  else bif !(ifits (s13.2.2.1.1, s13.2.2.1.2.1, s13.2.2.1.2.2.1, s13.2.2.1.2.2.2.1, r16.1, r17.1, r18.1, ())) then
   some ((([] : List Cl), (([] : List Tp), (([] : List Int), (([] : List Mt), (([] : List Int), ((0 : Int), ((0 : Int), ()))))))), ((2 : Int), ()))
  else 
   (icopy (s13.2.2.1.1, s13.2.2.1.2.1, s13.2.2.1.2.2.1, s13.2.2.1.2.2.2.1, r16.1, r17.1, r18.1, ())).bind fun r20 =>
   some (r20.1, ((0 : Int), ()))
def idecodeL2 (fuel : Nat) (r8 : Int × (List Int × Bool × Unit) × Unit) (s9 : Int × (List Int × Bool × Unit) × (List Cl × List Tp × List Int × List Mt × List Int × Int × Int × Unit) × Unit) (rec10 : (Int × (List Int × Bool × Unit) × (List Cl × List Tp × List Int × List Mt × List Int × Int × Int × Unit) × Unit) → Option (Im × Int × Unit)) : Option (Im × Int × Unit) :=
 bif decide (s9.1 < r8.1) then
  (glongN s9.2.1).bind fun r11 =>
  bif decide (s9.2.2.1.2.2.1.length + [r11.1].length < rowMax) then
   rec10 (IntKind.i64.wrap (s9.1 + 1), r11.2.1, (s9.2.2.1.1, s9.2.2.1.2.1, s9.2.2.1.2.2.1 ++ [r11.1], s9.2.2.1.2.2.2), ())
  else none
 else 
  (getN s9.2.1 (12 : Int)).bind fun r12 =>
  loopF (idecodeL1 r12) fuel ((0 : Int), r12.2.1, s9.2.2.1, ())
def idecodeL3 (fuel : Nat) (r1 : Int × (List Int × Bool × Unit) × Unit) (s2 : Int × (List Int × Bool × Unit) × (List Cl × List Tp × List Int × List Mt × List Int × Int × Int × Unit) × Unit) (rec3 : (Int × (List Int × Bool × Unit) × (List Cl × List Tp × List Int × List Mt × List Int × Int × Int × Unit) × Unit) → Option (Im × Int × Unit)) : Option (Im × Int × Unit) :=
 bif decide (s2.1 < r1.1) then
  (getN s2.2.1 (8 : Int)).bind fun r4 =>
  (getTypes r4.2.1 (8 : Int)).bind fun r5 =>
  (getNums r5.2.1 (4 : Int) (11 : Int)).bind fun r6 =>
  bif decide (s2.2.2.1.1.length + [(IntKind.i64.wrap (r4.1 - 1), r5.1, r6.1, ())].length < rowMax) then
   rec3 (IntKind.i64.wrap (s2.1 + 1), r6.2.1, (s2.2.2.1.1 ++ [(IntKind.i64.wrap (r4.1 - 1), r5.1, r6.1, ())], s2.2.2.1.2), ())
  else none
 else 
  (getTypes s2.2.1 (8 : Int)).bind fun r7 =>
  (getN r7.2.1 (16 : Int)).bind fun r8 =>
  loopF (idecodeL2 fuel r8) fuel ((0 : Int), r8.2.1, (s2.2.2.1.1, r7.1, s2.2.2.1.2.2), ())
def idecodeN (fuel : Nat) (b : List Int) : Option (Im × Int × Unit) :=
 bif decide ((b.length : Int) > 8192) then
  some ((([] : List Cl), (([] : List Tp), (([] : List Int), (([] : List Mt), (([] : List Int), ((0 : Int), ((0 : Int), ()))))))), ((2 : Int), ()))
 else bif decide ((b.length : Int) < 4) then
  some ((([] : List Cl), (([] : List Tp), (([] : List Int), (([] : List Mt), (([] : List Int), ((0 : Int), ((0 : Int), ()))))))), ((2 : Int), ()))
 else bif decide ((4 : Int) ≤ (b.length : Int)) then
  bif !((strOfNums ((b.take 4).drop 0)).toList == (⟨#[112, 108, 105, 109]⟩ : ByteArray).toList) then
   some ((([] : List Cl), (([] : List Tp), (([] : List Int), (([] : List Mt), (([] : List Int), ((0 : Int), ((0 : Int), ()))))))), ((2 : Int), ()))
  else bif decide ((4 : Int) ≤ (b.length : Int)) && decide ((b.length : Int) ≤ (b.length : Int)) then
   (getN (newN ((b.take b.length).drop 4)) (8 : Int)).bind fun r1 =>
   loopF (idecodeL3 fuel r1) fuel ((0 : Int), r1.2.1, ((([] : List Cl), (([] : List Tp), (([] : List Int), (([] : List Mt), (([] : List Int), ((0 : Int), ((0 : Int), ()))))))), ()))
  else none
 else none
def icopyL1 (m : Im) (s8 : Int × (List Cl × List Tp × List Int × List Mt × List Int × Int × Int × Unit) × Unit) (rec9 : (Int × (List Cl × List Tp × List Int × List Mt × List Int × Int × Int × Unit) × Unit) → Option (Im × Unit)) : Option (Im × Unit) :=
 bif decide (s8.1 < (m.2.2.2.1.length : Int)) then
  bif decide (0 ≤ s8.1) && decide (s8.1 < m.2.2.2.1.length) then
   (anTN (m.2.2.2.1.getD s8.1.toNat zMt).1).bind fun r10 =>
   (anTN (m.2.2.2.1.getD s8.1.toNat zMt).2.1).bind fun r11 =>
   (anXN (m.2.2.2.1.getD s8.1.toNat zMt).2.2.2.1).bind fun r12 =>
   (anIN (m.2.2.2.1.getD s8.1.toNat zMt).2.2.2.2.2.2.1).bind fun r13 =>
   bif decide (s8.2.1.2.2.2.1.length + [(r10.1, r11.1, (m.2.2.2.1.getD s8.1.toNat zMt).2.2.1, r12.1, (m.2.2.2.1.getD s8.1.toNat zMt).2.2.2.2.1, (m.2.2.2.1.getD s8.1.toNat zMt).2.2.2.2.2.1, r13.1, ())].length < rowMax) then
    rec9 (IntKind.i64.wrap (s8.1 + 1), (s8.2.1.1, s8.2.1.2.1, s8.2.1.2.2.1, s8.2.1.2.2.2.1 ++ [(r10.1, r11.1, (m.2.2.2.1.getD s8.1.toNat zMt).2.2.1, r12.1, (m.2.2.2.1.getD s8.1.toNat zMt).2.2.2.2.1, (m.2.2.2.1.getD s8.1.toNat zMt).2.2.2.2.2.1, r13.1, ())], s8.2.1.2.2.2.2), ())
   else none
  else none
 else some (((idL s8.2.1.1), s8.2.1.2.1, s8.2.1.2.2.1, (idL s8.2.1.2.2.2.1), s8.2.1.2.2.2.2), ())
def icopyL2 (m : Im) (fuel : Nat) (s4 : Int × (List Cl × List Tp × List Int × List Mt × List Int × Int × Int × Unit) × Unit) (rec5 : (Int × (List Cl × List Tp × List Int × List Mt × List Int × Int × Int × Unit) × Unit) → Option (Im × Unit)) : Option (Im × Unit) :=
 bif decide (s4.1 < (m.1.length : Int)) then
  bif decide (0 ≤ s4.1) && decide (s4.1 < m.1.length) then
   (anTN (m.1.getD s4.1.toNat zCl).2.1).bind fun r6 =>
   (anIN (m.1.getD s4.1.toNat zCl).2.2.1).bind fun r7 =>
   bif decide (s4.2.1.1.length + [((m.1.getD s4.1.toNat zCl).1, r6.1, r7.1, ())].length < rowMax) then
    rec5 (IntKind.i64.wrap (s4.1 + 1), (s4.2.1.1 ++ [((m.1.getD s4.1.toNat zCl).1, r6.1, r7.1, ())], s4.2.1.2), ())
   else none
  else none
 else loopF (icopyL1 m) fuel ((0 : Int), s4.2.1, ())
def icopyN (fuel : Nat) (m : Im) : Option (Im × Unit) :=
 (anTN m.2.1).bind fun r1 =>
 (anJN m.2.2.1).bind fun r2 =>
 (anIN m.2.2.2.2.1).bind fun r3 =>
 loopF (icopyL2 m fuel) fuel ((0 : Int), ((([] : List Cl), r1.1, r2.1, (([] : List Mt), r3.1, m.2.2.2.2.2)), ()))
def kgoodN (t : Tp) (n : Int) : Option (Bool × Unit) :=
 (bif t.1 == 1 then
  some (.inl (true, ()))
 else some (.inl (t.1 == 2, ())) : Option ((Bool × Unit) ⊕ (Bool × Unit))).bind fun q => match q with
 | .inr r2 => some r2
 | .inl s1 =>
  bif s1.1 then
   some (t.2.1 == 0, ())
  else bif t.1 == 3 then
   bif decide (t.2.1 ≥ 0) then
    some (decide (t.2.1 < n), ())
   else some (false, ())
  else some (false, ())
def kisrefN (t : Tp) : Option (Bool × Unit) :=
 bif t.1 == 2 then
  some (true, ())
 else bif t.1 == 3 then
  some (true, ())
 else some (t.1 == 4, ())
def kupN (l : List Cl) (c : Int) : Option (Int × Unit) :=
 bif decide (c < 0) then
  some ((-1 : Int), ())
 else bif decide (c ≥ (l.length : Int)) then
  some ((-1 : Int), ())
 else bif decide (0 ≤ c) && decide (c < l.length) then
  bif decide ((l.getD c.toNat zCl).1 ≥ c) then
   some ((-1 : Int), ())
  else bif decide (0 ≤ c) && decide (c < l.length) then
   some ((l.getD c.toNat zCl).1, ())
  else none
 else none
def kbelowL1 (l : List Cl) (b : Int) (s1 : Int × Unit) (rec2 : (Int × Unit) → Option (Bool × Unit)) : Option (Bool × Unit) :=
 bif decide (s1.1 ≥ 0) then
  bif s1.1 == b then
   some (true, ())
  else rec2 ((kup l s1.1), ())
 else some (false, ())
def kbelowN (fuel : Nat) (l : List Cl) (a : Int) (b : Int) : Option (Bool × Unit) :=
 bif decide (b < 0) then
  some (false, ())
 else bif decide (b ≥ (l.length : Int)) then
  some (false, ())
 else bif decide (a ≥ (l.length : Int)) then
  some (false, ())
 else loopF (kbelowL1 l b) fuel (a, ())
def ksubN (l : List Cl) (a : Tp) (b : Tp) : Option (Bool × Unit) :=
 bif a.1 == 4 then
  some ((kisref b), ())
 else bif a.1 == 3 then
  bif b.1 == 3 then
   some ((kbelow l a.2.1 b.2.1), ())
  else bif (a.1 == b.1) && ((a.2.1 == b.2.1) && true) then
   bif a.1 == 1 then
    some (true, ())
   else some (a.1 == 2, ())
  else some (false, ())
 else bif (a.1 == b.1) && ((a.2.1 == b.2.1) && true) then
  bif a.1 == 1 then
   some (true, ())
  else some (a.1 == 2, ())
 else some (false, ())
def raboveL1 (l : List Cl) (s1 : Int × List Int × Unit) (rec2 : (Int × List Int × Unit) → Option (List Int × Unit)) : Option (List Int × Unit) :=
 bif decide (s1.1 ≥ 0) then
  bif decide (s1.1 < (l.length : Int)) then
   bif decide (s1.2.1.length + [s1.1].length < rowMax) then
    bif decide (0 ≤ s1.1) && decide (s1.1 < l.length) then
     bif decide ((l.getD s1.1.toNat zCl).1 ≥ s1.1) then
      rec2 ((-1 : Int), s1.2.1 ++ [s1.1], ())
     else rec2 ((l.getD s1.1.toNat zCl).1, s1.2.1 ++ [s1.1], ())
    else none
   else none
  else some (s1.2.1, ())
 else some (s1.2.1, ())
def raboveN (fuel : Nat) (l : List Cl) (c : Int) : Option (List Int × Unit) :=
 loopF (raboveL1 l) fuel (c, (([] : List Int), ()))
def rtypesLen (a : List Tp) (b : List Tp) : Prop := (a.length ≤ lenMax ∧ ∀ x1 : Tp, x1 ∈ a → (True ∧ (True ∧ True))) ∧ (b.length ≤ lenMax ∧ ∀ x1 : Tp, x1 ∈ b → (True ∧ (True ∧ True))) ∧ True
def rtypesL1 (a : List Tp) (b : List Tp) (s1 : Int × Unit) (rec2 : (Int × Unit) → Option (Bool × Unit)) : Option (Bool × Unit) :=
 bif decide (s1.1 < (a.length : Int)) then
  bif decide (0 ≤ s1.1) && decide (s1.1 < a.length) then
   bif decide (0 ≤ s1.1) && decide (s1.1 < b.length) then
    bif !((((a.getD s1.1.toNat zTp).1) == ((b.getD s1.1.toNat zTp).1)) && ((((a.getD s1.1.toNat zTp).2.1) == ((b.getD s1.1.toNat zTp).2.1)) && true)) then
     some (false, ())
    else rec2 (IntKind.i64.wrap (s1.1 + 1), ())
   else none
  else none
 else some (true, ())
def rtypesN (fuel : Nat) (a : List Tp) (b : List Tp) : Option (Bool × Unit) :=
 bif (a.length : Int) != (b.length : Int) then
  some (false, ())
 else loopF (rtypesL1 a b) fuel ((0 : Int), ())
def rintsLen (a : List Int) (b : List Int) : Prop := (a.length ≤ lenMax ∧ ∀ x1 : Int, x1 ∈ a → True) ∧ (b.length ≤ lenMax ∧ ∀ x1 : Int, x1 ∈ b → True) ∧ True
def rintsL1 (a : List Int) (b : List Int) (s1 : Int × Unit) (rec2 : (Int × Unit) → Option (Bool × Unit)) : Option (Bool × Unit) :=
 bif decide (s1.1 < (a.length : Int)) then
  bif decide (0 ≤ s1.1) && decide (s1.1 < a.length) then
   bif decide (0 ≤ s1.1) && decide (s1.1 < b.length) then
    bif (a.getD s1.1.toNat 0) != (b.getD s1.1.toNat 0) then
     some (false, ())
    else rec2 (IntKind.i64.wrap (s1.1 + 1), ())
   else none
  else none
 else some (true, ())
def rintsN (fuel : Nat) (a : List Int) (b : List Int) : Option (Bool × Unit) :=
 bif (a.length : Int) != (b.length : Int) then
  some (false, ())
 else loopF (rintsL1 a b) fuel ((0 : Int), ())
def r5inN (n : Int) (a : Int) (b : Int) : Option (Bool × Unit) :=
 bif decide (n ≥ a) then
  some (decide (n ≤ b), ())
 else some (false, ())
def r5listLen (l : List Int) (_c : Int) (_m : Int) : Prop := (l.length ≤ lenMax ∧ ∀ x1 : Int, x1 ∈ l → True) ∧ True ∧ True ∧ True
def r5listL1 (l : List Int) (m : Int) (s1 : Int × Unit) (rec2 : (Int × Unit) → Option (Bool × Unit)) : Option (Bool × Unit) :=
 bif decide (s1.1 < (l.length : Int)) then
  bif decide (0 ≤ s1.1) && decide (s1.1 < l.length) then
   bif !(r5in (l.getD s1.1.toNat 0) (0 : Int) m) then
    some (false, ())
   else rec2 (IntKind.i64.wrap (s1.1 + 1), ())
  else none
 else some (true, ())
def r5listN (fuel : Nat) (l : List Int) (c : Int) (m : Int) : Option (Bool × Unit) :=
 bif decide ((l.length : Int) > c) then
  some (false, ())
 else loopF (r5listL1 l m) fuel ((0 : Int), ())
def r5typN (t : Tp) : Option (Bool × Unit) :=
 bif (r5in t.1 (0 : Int) (5 : Int)) then
  bif t.2.1 == 0 then
   some (true, ())
  else bif t.1 == 3 then
   some ((r5in t.2.1 (0 : Int) (7 : Int)), ())
  else some (false, ())
 else some (false, ())
def r5typesLen (l : List Tp) (_c : Int) : Prop := (l.length ≤ lenMax ∧ ∀ x1 : Tp, x1 ∈ l → (True ∧ (True ∧ True))) ∧ True ∧ True
def r5typesL1 (l : List Tp) (s1 : Int × Unit) (rec2 : (Int × Unit) → Option (Bool × Unit)) : Option (Bool × Unit) :=
 bif decide (s1.1 < (l.length : Int)) then
  bif decide (0 ≤ s1.1) && decide (s1.1 < l.length) then
   bif !(r5typ (l.getD s1.1.toNat zTp)) then
    some (false, ())
   else rec2 (IntKind.i64.wrap (s1.1 + 1), ())
  else none
 else some (true, ())
def r5typesN (fuel : Nat) (l : List Tp) (c : Int) : Option (Bool × Unit) :=
 bif decide ((l.length : Int) > c) then
  some (false, ())
 else loopF (r5typesL1 l) fuel ((0 : Int), ())
def r5fitsLen (m : Im) : Prop := ((m.1.length ≤ lenMax ∧ ∀ x1 : Cl, x1 ∈ m.1 → (True ∧ ((x1.2.1.length ≤ lenMax ∧ ∀ x2 : Tp, x2 ∈ x1.2.1 → (True ∧ (True ∧ True))) ∧ ((x1.2.2.1.length ≤ lenMax ∧ ∀ x2 : Int, x2 ∈ x1.2.2.1 → True) ∧ True)))) ∧ ((m.2.1.length ≤ lenMax ∧ ∀ x1 : Tp, x1 ∈ m.2.1 → (True ∧ (True ∧ True))) ∧ ((m.2.2.1.length ≤ lenMax ∧ ∀ x1 : Int, x1 ∈ m.2.2.1 → True) ∧ ((m.2.2.2.1.length ≤ lenMax ∧ ∀ x1 : Mt, x1 ∈ m.2.2.2.1 → ((x1.1.length ≤ lenMax ∧ ∀ x2 : Tp, x2 ∈ x1.1 → (True ∧ (True ∧ True))) ∧ ((x1.2.1.length ≤ lenMax ∧ ∀ x2 : Tp, x2 ∈ x1.2.1 → (True ∧ (True ∧ True))) ∧ ((True ∧ (True ∧ True)) ∧ ((x1.2.2.2.1.length ≤ lenMax ∧ ∀ x2 : Ins, x2 ∈ x1.2.2.2.1 → (True ∧ (True ∧ (True ∧ True)))) ∧ (True ∧ (True ∧ ((x1.2.2.2.2.2.2.1.length ≤ lenMax ∧ ∀ x2 : Int, x2 ∈ x1.2.2.2.2.2.2.1 → True) ∧ True)))))))) ∧ ((m.2.2.2.2.1.length ≤ lenMax ∧ ∀ x1 : Int, x1 ∈ m.2.2.2.2.1 → True) ∧ (True ∧ (True ∧ True))))))) ∧ True
def r5fitsL1 (m : Im) (s3 : Int × Unit) (rec4 : (Int × Unit) → Option (Bool × Unit)) (s5 : Int × Unit) (rec6 : (Int × Unit) → Option (Bool × Unit)) : Option (Bool × Unit) :=
 bif decide (s5.1 < ((m.2.2.2.1.getD s3.1.toNat zMt).2.2.2.1.length : Int)) then
  bif decide (0 ≤ s5.1) && decide (s5.1 < (m.2.2.2.1.getD s3.1.toNat zMt).2.2.2.1.length) then
   bif !(rinstr ((m.2.2.2.1.getD s3.1.toNat zMt).2.2.2.1.getD s5.1.toNat zIns)) then
    some (false, ())
   else rec6 (IntKind.i64.wrap (s5.1 + 1), ())
  else none
 else rec4 (IntKind.i64.wrap (s3.1 + 1), ())
def r5fitsL2 (m : Im) (fuel : Nat) (s3 : Int × Unit) (rec4 : (Int × Unit) → Option (Bool × Unit)) : Option (Bool × Unit) :=
 bif decide (s3.1 < (m.2.2.2.1.length : Int)) then
  bif decide (0 ≤ s3.1) && decide (s3.1 < m.2.2.2.1.length) then
   bif !(r5types (m.2.2.2.1.getD s3.1.toNat zMt).1 (4 : Int)) then
    some (false, ())
   else bif !(r5types (m.2.2.2.1.getD s3.1.toNat zMt).2.1 (8 : Int)) then
    some (false, ())
   else bif !(r5typ (m.2.2.2.1.getD s3.1.toNat zMt).2.2.1) then
    some (false, ())
   else bif decide (((m.2.2.2.1.getD s3.1.toNat zMt).2.2.2.1.length : Int) > 64) then
    some (false, ())
   else bif !(r5in (m.2.2.2.1.getD s3.1.toNat zMt).2.2.2.2.1 (0 : Int) (8 : Int)) then
    some (false, ())
   else bif !(r5in (m.2.2.2.1.getD s3.1.toNat zMt).2.2.2.2.2.1 (0 : Int) (4096 : Int)) then
    some (false, ())
   else bif !(r5list (m.2.2.2.1.getD s3.1.toNat zMt).2.2.2.2.2.2.1 (64 : Int) (4096 : Int)) then
    some (false, ())
   else loopF (r5fitsL1 m s3 rec4) fuel ((0 : Int), ())
  else none
 else some (true, ())
def r5fitsL3 (m : Im) (fuel : Nat) (s1 : Int × Unit) (rec2 : (Int × Unit) → Option (Bool × Unit)) : Option (Bool × Unit) :=
 bif decide (s1.1 < (m.1.length : Int)) then
  bif decide (0 ≤ s1.1) && decide (s1.1 < m.1.length) then
   bif !(r5in (m.1.getD s1.1.toNat zCl).1 (-1 : Int) (7 : Int)) then
    some (false, ())
   else bif !(r5types (m.1.getD s1.1.toNat zCl).2.1 (8 : Int)) then
    some (false, ())
   else bif !(r5list (m.1.getD s1.1.toNat zCl).2.2.1 (4 : Int) (11 : Int)) then
    some (false, ())
   else rec2 (IntKind.i64.wrap (s1.1 + 1), ())
  else none
 else loopF (r5fitsL2 m fuel) fuel ((0 : Int), ())
def r5fitsN (fuel : Nat) (m : Im) : Option (Bool × Unit) :=
 bif decide ((m.1.length : Int) > 8) then
  some (false, ())
 else bif decide ((m.2.2.1.length : Int) > 16) then
  some (false, ())
 else bif decide ((m.2.2.2.1.length : Int) > 12) then
  some (false, ())
 else bif !(r5types m.2.1 (8 : Int)) then
  some (false, ())
 else bif !(r5list m.2.2.2.2.1 (12 : Int) (11 : Int)) then
  some (false, ())
 else bif !(r5in m.2.2.2.2.2.1 (0 : Int) (4096 : Int)) then
  some (false, ())
 else bif !(r5in m.2.2.2.2.2.2.1 (0 : Int) (4096 : Int)) then
  some (false, ())
 else loopF (r5fitsL3 m fuel) fuel ((0 : Int), ())
def r5numsL1 (l : List Int) (s2 : List Int × Int × Unit) (rec3 : (List Int × Int × Unit) → Option (List Int × Unit)) : Option (List Int × Unit) :=
 bif decide (s2.2.1 < (l.length : Int)) then
  bif decide (0 ≤ s2.2.1) && decide (s2.2.1 < l.length) then
   (rbytes (l.getD s2.2.1.toNat 0)).bind fun r4 =>
   bif decide (s2.1.length + r4.1.length < rowMax) then
    rec3 (s2.1 ++ r4.1, IntKind.i64.wrap (s2.2.1 + 1), ())
   else none
  else none
 else some (s2.1, ())
def r5numsN (fuel : Nat) (l : List Int) : Option (List Int × Unit) :=
 (rbytes (l.length : Int)).bind fun r1 =>
 loopF (r5numsL1 l) fuel (r1.1, ((0 : Int), ()))
def r5oneN (t : Tp) : Option (List Int × Unit) :=
 bif t.1 == 3 then
  (rbytes (3 : Int)).bind fun r1 =>
  (rbytes t.2.1).bind fun r2 =>
  bif decide (r1.1.length + r2.1.length < rowMax) then
   some (r1.1 ++ r2.1, ())
  else none
 else 
  (rbytes t.1).bind fun r3 =>
  some (r3.1, ())
def r5severalL1 (l : List Tp) (s2 : List Int × Int × Unit) (rec3 : (List Int × Int × Unit) → Option (List Int × Unit)) : Option (List Int × Unit) :=
 bif decide (s2.2.1 < (l.length : Int)) then
  bif decide (0 ≤ s2.2.1) && decide (s2.2.1 < l.length) then
   (r5one (l.getD s2.2.1.toNat zTp)).bind fun r4 =>
   bif decide (s2.1.length + r4.1.length < rowMax) then
    rec3 (s2.1 ++ r4.1, IntKind.i64.wrap (s2.2.1 + 1), ())
   else none
  else none
 else some (s2.1, ())
def r5severalN (fuel : Nat) (l : List Tp) : Option (List Int × Unit) :=
 (rbytes (l.length : Int)).bind fun r1 =>
 loopF (r5severalL1 l) fuel (r1.1, ((0 : Int), ()))
def r5encodeL1 (m : Im) (s13 : List Int × Int × Unit) (rec14 : (List Int × Int × Unit) → Option (List Int × Unit)) (s19 : List Int × Int × Unit) (rec20 : (List Int × Int × Unit) → Option (List Int × Unit)) : Option (List Int × Unit) :=
 bif decide (s19.2.1 < ((m.2.2.2.1.getD s13.2.1.toNat zMt).2.2.2.1.length : Int)) then
  bif decide (0 ≤ s19.2.1) && decide (s19.2.1 < (m.2.2.2.1.getD s13.2.1.toNat zMt).2.2.2.1.length) then
   (rbytes ((m.2.2.2.1.getD s13.2.1.toNat zMt).2.2.2.1.getD s19.2.1.toNat zIns).1).bind fun r21 =>
   bif decide (s19.1.length + r21.1.length < rowMax) then
    (bif decide (0 ≤ s19.2.1) && decide (s19.2.1 < (m.2.2.2.1.getD s13.2.1.toNat zMt).2.2.2.1.length) then
     bif decide ((rargs ((m.2.2.2.1.getD s13.2.1.toNat zMt).2.2.2.1.getD s19.2.1.toNat zIns).1) > 0) then
      bif decide (0 ≤ s19.2.1) && decide (s19.2.1 < (m.2.2.2.1.getD s13.2.1.toNat zMt).2.2.2.1.length) then
       (rbytes ((m.2.2.2.1.getD s13.2.1.toNat zMt).2.2.2.1.getD s19.2.1.toNat zIns).2.1).bind fun r24 =>
       bif decide ((s19.1 ++ r21.1).length + r24.1.length < rowMax) then
        some (.inl ((s19.1 ++ r21.1) ++ r24.1, ()))
       else none
      else none
     else some (.inl (s19.1 ++ r21.1, ()))
    else none : Option ((List Int × Unit) ⊕ (List Int × Unit))).bind fun q => match q with
    | .inr r23 => some r23
    | .inl s22 =>
     bif decide (0 ≤ s19.2.1) && decide (s19.2.1 < (m.2.2.2.1.getD s13.2.1.toNat zMt).2.2.2.1.length) then
      bif decide ((rargs ((m.2.2.2.1.getD s13.2.1.toNat zMt).2.2.2.1.getD s19.2.1.toNat zIns).1) > 1) then
       bif decide (0 ≤ s19.2.1) && decide (s19.2.1 < (m.2.2.2.1.getD s13.2.1.toNat zMt).2.2.2.1.length) then
        (rbytes ((m.2.2.2.1.getD s13.2.1.toNat zMt).2.2.2.1.getD s19.2.1.toNat zIns).2.2.1).bind fun r25 =>
        bif decide (s22.1.length + r25.1.length < rowMax) then
         rec20 (s22.1 ++ r25.1, IntKind.i64.wrap (s19.2.1 + 1), ())
        else none
       else none
      else rec20 (s22.1, IntKind.i64.wrap (s19.2.1 + 1), ())
     else none
   else none
  else none
 else 
  (rbytes (m.2.2.2.1.getD s13.2.1.toNat zMt).2.2.2.2.1).bind fun r26 =>
  bif decide (s19.1.length + r26.1.length < rowMax) then
   (rbytes (m.2.2.2.1.getD s13.2.1.toNat zMt).2.2.2.2.2.1).bind fun r27 =>
   bif decide ((s19.1 ++ r26.1).length + r27.1.length < rowMax) then
    (r5nums (m.2.2.2.1.getD s13.2.1.toNat zMt).2.2.2.2.2.2.1).bind fun r28 =>
    bif decide (((s19.1 ++ r26.1) ++ r27.1).length + r28.1.length < rowMax) then
     rec14 (((s19.1 ++ r26.1) ++ r27.1) ++ r28.1, IntKind.i64.wrap (s13.2.1 + 1), ())
    else none
   else none
  else none
def r5encodeL2 (m : Im) (fuel : Nat) (s13 : List Int × Int × Unit) (rec14 : (List Int × Int × Unit) → Option (List Int × Unit)) : Option (List Int × Unit) :=
 bif decide (s13.2.1 < (m.2.2.2.1.length : Int)) then
  bif decide (0 ≤ s13.2.1) && decide (s13.2.1 < m.2.2.2.1.length) then
   (r5several (m.2.2.2.1.getD s13.2.1.toNat zMt).1).bind fun r15 =>
   bif decide (s13.1.length + r15.1.length < rowMax) then
    (r5several (m.2.2.2.1.getD s13.2.1.toNat zMt).2.1).bind fun r16 =>
    bif decide ((s13.1 ++ r15.1).length + r16.1.length < rowMax) then
     (r5one (m.2.2.2.1.getD s13.2.1.toNat zMt).2.2.1).bind fun r17 =>
     bif decide (((s13.1 ++ r15.1) ++ r16.1).length + r17.1.length < rowMax) then
      (rbytes ((m.2.2.2.1.getD s13.2.1.toNat zMt).2.2.2.1.length : Int)).bind fun r18 =>
      bif decide ((((s13.1 ++ r15.1) ++ r16.1) ++ r17.1).length + r18.1.length < rowMax) then
       loopF (r5encodeL1 m s13 rec14) fuel ((((s13.1 ++ r15.1) ++ r16.1) ++ r17.1) ++ r18.1, ((0 : Int), ()))
      else none
     else none
    else none
   else none
  else none
 else 
  (r5nums m.2.2.2.2.1).bind fun r29 =>
  bif decide (s13.1.length + r29.1.length < rowMax) then
   (rbytes m.2.2.2.2.2.1).bind fun r30 =>
   bif decide ((s13.1 ++ r29.1).length + r30.1.length < rowMax) then
    (rbytes m.2.2.2.2.2.2.1).bind fun r31 =>
    bif decide (((s13.1 ++ r29.1) ++ r30.1).length + r31.1.length < rowMax) then
     some (((s13.1 ++ r29.1) ++ r30.1) ++ r31.1, ())
    else none
   else none
  else none
def r5encodeL3 (m : Im) (fuel : Nat) (s9 : List Int × Int × Unit) (rec10 : (List Int × Int × Unit) → Option (List Int × Unit)) : Option (List Int × Unit) :=
 bif decide (s9.2.1 < (m.2.2.1.length : Int)) then
  bif decide (0 ≤ s9.2.1) && decide (s9.2.1 < m.2.2.1.length) then
   (rsignedN (m.2.2.1.getD s9.2.1.toNat 0)).bind fun r11 =>
   bif decide (s9.1.length + r11.1.length < rowMax) then
    rec10 (s9.1 ++ r11.1, IntKind.i64.wrap (s9.2.1 + 1), ())
   else none
  else none
 else 
  (rbytes (m.2.2.2.1.length : Int)).bind fun r12 =>
  bif decide (s9.1.length + r12.1.length < rowMax) then
   loopF (r5encodeL2 m fuel) fuel (s9.1 ++ r12.1, ((0 : Int), ()))
  else none
def r5encodeL4 (m : Im) (fuel : Nat) (s2 : List Int × Int × Unit) (rec3 : (List Int × Int × Unit) → Option (List Int × Unit)) : Option (List Int × Unit) :=
 bif decide (s2.2.1 < (m.1.length : Int)) then
  bif decide (0 ≤ s2.2.1) && decide (s2.2.1 < m.1.length) then
   (rbytes (IntKind.i64.wrap (((m.1.getD s2.2.1.toNat zCl).1) + 1))).bind fun r4 =>
   bif decide (s2.1.length + r4.1.length < rowMax) then
    bif decide (0 ≤ s2.2.1) && decide (s2.2.1 < m.1.length) then
     (r5several (m.1.getD s2.2.1.toNat zCl).2.1).bind fun r5 =>
     bif decide ((s2.1 ++ r4.1).length + r5.1.length < rowMax) then
      bif decide (0 ≤ s2.2.1) && decide (s2.2.1 < m.1.length) then
       (r5nums (m.1.getD s2.2.1.toNat zCl).2.2.1).bind fun r6 =>
       bif decide (((s2.1 ++ r4.1) ++ r5.1).length + r6.1.length < rowMax) then
        rec3 (((s2.1 ++ r4.1) ++ r5.1) ++ r6.1, IntKind.i64.wrap (s2.2.1 + 1), ())
       else none
      else none
     else none
    else none
   else none
  else none
 else 
  (r5several m.2.1).bind fun r7 =>
  bif decide (s2.1.length + r7.1.length < rowMax) then
   (rbytes (m.2.2.1.length : Int)).bind fun r8 =>
   bif decide ((s2.1 ++ r7.1).length + r8.1.length < rowMax) then
    loopF (r5encodeL3 m fuel) fuel ((s2.1 ++ r7.1) ++ r8.1, ((0 : Int), ()))
   else none
  else none
def r5encodeN (fuel : Nat) (m : Im) : Option (List Int × Unit) :=
 (rbytes (m.1.length : Int)).bind fun r1 =>
 bif decide (([112, 108, 105, 109] : List Int).length + r1.1.length < rowMax) then
  loopF (r5encodeL4 m fuel) fuel (([112, 108, 105, 109] : List Int) ++ r1.1, ((0 : Int), ()))
 else none
def r5sameLen (a : Im) (b : Im) : Prop := ((a.1.length ≤ lenMax ∧ ∀ x1 : Cl, x1 ∈ a.1 → (True ∧ ((x1.2.1.length ≤ lenMax ∧ ∀ x2 : Tp, x2 ∈ x1.2.1 → (True ∧ (True ∧ True))) ∧ ((x1.2.2.1.length ≤ lenMax ∧ ∀ x2 : Int, x2 ∈ x1.2.2.1 → True) ∧ True)))) ∧ ((a.2.1.length ≤ lenMax ∧ ∀ x1 : Tp, x1 ∈ a.2.1 → (True ∧ (True ∧ True))) ∧ ((a.2.2.1.length ≤ lenMax ∧ ∀ x1 : Int, x1 ∈ a.2.2.1 → True) ∧ ((a.2.2.2.1.length ≤ lenMax ∧ ∀ x1 : Mt, x1 ∈ a.2.2.2.1 → ((x1.1.length ≤ lenMax ∧ ∀ x2 : Tp, x2 ∈ x1.1 → (True ∧ (True ∧ True))) ∧ ((x1.2.1.length ≤ lenMax ∧ ∀ x2 : Tp, x2 ∈ x1.2.1 → (True ∧ (True ∧ True))) ∧ ((True ∧ (True ∧ True)) ∧ ((x1.2.2.2.1.length ≤ lenMax ∧ ∀ x2 : Ins, x2 ∈ x1.2.2.2.1 → (True ∧ (True ∧ (True ∧ True)))) ∧ (True ∧ (True ∧ ((x1.2.2.2.2.2.2.1.length ≤ lenMax ∧ ∀ x2 : Int, x2 ∈ x1.2.2.2.2.2.2.1 → True) ∧ True)))))))) ∧ ((a.2.2.2.2.1.length ≤ lenMax ∧ ∀ x1 : Int, x1 ∈ a.2.2.2.2.1 → True) ∧ (True ∧ (True ∧ True))))))) ∧ ((b.1.length ≤ lenMax ∧ ∀ x1 : Cl, x1 ∈ b.1 → (True ∧ ((x1.2.1.length ≤ lenMax ∧ ∀ x2 : Tp, x2 ∈ x1.2.1 → (True ∧ (True ∧ True))) ∧ ((x1.2.2.1.length ≤ lenMax ∧ ∀ x2 : Int, x2 ∈ x1.2.2.1 → True) ∧ True)))) ∧ ((b.2.1.length ≤ lenMax ∧ ∀ x1 : Tp, x1 ∈ b.2.1 → (True ∧ (True ∧ True))) ∧ ((b.2.2.1.length ≤ lenMax ∧ ∀ x1 : Int, x1 ∈ b.2.2.1 → True) ∧ ((b.2.2.2.1.length ≤ lenMax ∧ ∀ x1 : Mt, x1 ∈ b.2.2.2.1 → ((x1.1.length ≤ lenMax ∧ ∀ x2 : Tp, x2 ∈ x1.1 → (True ∧ (True ∧ True))) ∧ ((x1.2.1.length ≤ lenMax ∧ ∀ x2 : Tp, x2 ∈ x1.2.1 → (True ∧ (True ∧ True))) ∧ ((True ∧ (True ∧ True)) ∧ ((x1.2.2.2.1.length ≤ lenMax ∧ ∀ x2 : Ins, x2 ∈ x1.2.2.2.1 → (True ∧ (True ∧ (True ∧ True)))) ∧ (True ∧ (True ∧ ((x1.2.2.2.2.2.2.1.length ≤ lenMax ∧ ∀ x2 : Int, x2 ∈ x1.2.2.2.2.2.2.1 → True) ∧ True)))))))) ∧ ((b.2.2.2.2.1.length ≤ lenMax ∧ ∀ x1 : Int, x1 ∈ b.2.2.2.2.1 → True) ∧ (True ∧ (True ∧ True))))))) ∧ True
def r5sameL1 (a : Im) (b : Im) (s5 : Int × Unit) (rec6 : (Int × Unit) → Option (Bool × Unit)) (s7 : Int × Unit) (rec8 : (Int × Unit) → Option (Bool × Unit)) : Option (Bool × Unit) :=
 bif decide (s7.1 < ((a.2.2.2.1.getD s5.1.toNat zMt).2.2.2.1.length : Int)) then
  bif decide (0 ≤ s7.1) && decide (s7.1 < (a.2.2.2.1.getD s5.1.toNat zMt).2.2.2.1.length) then
   bif decide (0 ≤ s7.1) && decide (s7.1 < (b.2.2.2.1.getD s5.1.toNat zMt).2.2.2.1.length) then
    bif !(((((a.2.2.2.1.getD s5.1.toNat zMt).2.2.2.1.getD s7.1.toNat zIns).1) == (((b.2.2.2.1.getD s5.1.toNat zMt).2.2.2.1.getD s7.1.toNat zIns).1)) && (((((a.2.2.2.1.getD s5.1.toNat zMt).2.2.2.1.getD s7.1.toNat zIns).2.1) == (((b.2.2.2.1.getD s5.1.toNat zMt).2.2.2.1.getD s7.1.toNat zIns).2.1)) && (((((a.2.2.2.1.getD s5.1.toNat zMt).2.2.2.1.getD s7.1.toNat zIns).2.2.1) == (((b.2.2.2.1.getD s5.1.toNat zMt).2.2.2.1.getD s7.1.toNat zIns).2.2.1)) && true))) then
     some (false, ())
    else rec8 (IntKind.i64.wrap (s7.1 + 1), ())
   else none
  else none
 else rec6 (IntKind.i64.wrap (s5.1 + 1), ())
def r5sameL2 (a : Im) (b : Im) (fuel : Nat) (s5 : Int × Unit) (rec6 : (Int × Unit) → Option (Bool × Unit)) : Option (Bool × Unit) :=
 bif decide (s5.1 < (a.2.2.2.1.length : Int)) then
  bif decide (0 ≤ s5.1) && decide (s5.1 < a.2.2.2.1.length) then
   bif decide (0 ≤ s5.1) && decide (s5.1 < b.2.2.2.1.length) then
    bif !(rtypes (a.2.2.2.1.getD s5.1.toNat zMt).1 (b.2.2.2.1.getD s5.1.toNat zMt).1) then
     some (false, ())
    else bif !(rtypes (a.2.2.2.1.getD s5.1.toNat zMt).2.1 (b.2.2.2.1.getD s5.1.toNat zMt).2.1) then
     some (false, ())
    else bif !((((a.2.2.2.1.getD s5.1.toNat zMt).2.2.1.1) == ((b.2.2.2.1.getD s5.1.toNat zMt).2.2.1.1)) && ((((a.2.2.2.1.getD s5.1.toNat zMt).2.2.1.2.1) == ((b.2.2.2.1.getD s5.1.toNat zMt).2.2.1.2.1)) && true)) then
     some (false, ())
    else bif ((a.2.2.2.1.getD s5.1.toNat zMt).2.2.2.1.length : Int) != ((b.2.2.2.1.getD s5.1.toNat zMt).2.2.2.1.length : Int) then
     some (false, ())
    else bif ((a.2.2.2.1.getD s5.1.toNat zMt).2.2.2.2.1) != ((b.2.2.2.1.getD s5.1.toNat zMt).2.2.2.2.1) then
     some (false, ())
    else bif ((a.2.2.2.1.getD s5.1.toNat zMt).2.2.2.2.2.1) != ((b.2.2.2.1.getD s5.1.toNat zMt).2.2.2.2.2.1) then
     some (false, ())
    else bif !(rints (a.2.2.2.1.getD s5.1.toNat zMt).2.2.2.2.2.2.1 (b.2.2.2.1.getD s5.1.toNat zMt).2.2.2.2.2.2.1) then
     some (false, ())
    else loopF (r5sameL1 a b s5 rec6) fuel ((0 : Int), ())
   else none
  else none
 else some (true, ())
def r5sameL3 (a : Im) (b : Im) (fuel : Nat) (s3 : Int × Unit) (rec4 : (Int × Unit) → Option (Bool × Unit)) : Option (Bool × Unit) :=
 bif decide (s3.1 < (a.1.length : Int)) then
  bif decide (0 ≤ s3.1) && decide (s3.1 < a.1.length) then
   bif decide (0 ≤ s3.1) && decide (s3.1 < b.1.length) then
    bif ((a.1.getD s3.1.toNat zCl).1) != ((b.1.getD s3.1.toNat zCl).1) then
     some (false, ())
    else bif !(rtypes (a.1.getD s3.1.toNat zCl).2.1 (b.1.getD s3.1.toNat zCl).2.1) then
     some (false, ())
    else bif !(rints (a.1.getD s3.1.toNat zCl).2.2.1 (b.1.getD s3.1.toNat zCl).2.2.1) then
     some (false, ())
    else rec4 (IntKind.i64.wrap (s3.1 + 1), ())
   else none
  else none
 else loopF (r5sameL2 a b fuel) fuel ((0 : Int), ())
def r5sameL4 (a : Im) (b : Im) (fuel : Nat) (s1 : Int × Unit) (rec2 : (Int × Unit) → Option (Bool × Unit)) : Option (Bool × Unit) :=
 bif decide (s1.1 < (a.2.2.1.length : Int)) then
  bif decide (0 ≤ s1.1) && decide (s1.1 < a.2.2.1.length) then
   bif decide (0 ≤ s1.1) && decide (s1.1 < b.2.2.1.length) then
    bif (a.2.2.1.getD s1.1.toNat 0) != (b.2.2.1.getD s1.1.toNat 0) then
     some (false, ())
    else rec2 (IntKind.i64.wrap (s1.1 + 1), ())
   else none
  else none
 else loopF (r5sameL3 a b fuel) fuel ((0 : Int), ())
def r5sameN (fuel : Nat) (a : Im) (b : Im) : Option (Bool × Unit) :=
 bif (a.1.length : Int) != (b.1.length : Int) then
  some (false, ())
 else bif (a.2.2.2.1.length : Int) != (b.2.2.2.1.length : Int) then
  some (false, ())
 else bif (a.2.2.1.length : Int) != (b.2.2.1.length : Int) then
  some (false, ())
 else bif a.2.2.2.2.2.1 != b.2.2.2.2.2.1 then
  some (false, ())
 else bif a.2.2.2.2.2.2.1 != b.2.2.2.2.2.2.1 then
  some (false, ())
 else bif !(rtypes a.2.1 b.2.1) then
  some (false, ())
 else bif !(rints a.2.2.2.2.1 b.2.2.2.2.1) then
  some (false, ())
 else loopF (r5sameL4 a b fuel) fuel ((0 : Int), ())
def r5fieldsL1 (m : Im) (r1 : List Int × Unit) (s2 : List Tp × Int × Unit) (rec3 : (List Tp × Int × Unit) → Option (List Tp × Unit)) : Option (List Tp × Unit) :=
 bif decide (s2.2.1 ≥ 0) then
  bif decide (0 ≤ s2.2.1) && decide (s2.2.1 < r1.1.length) then
   bif decide (0 ≤ r1.1.getD s2.2.1.toNat 0) && decide (r1.1.getD s2.2.1.toNat 0 < m.1.length) then
    bif decide (s2.1.length + (m.1.getD (r1.1.getD s2.2.1.toNat 0).toNat zCl).2.1.length < rowMax) then
     rec3 (s2.1 ++ ((m.1.getD (r1.1.getD s2.2.1.toNat 0).toNat zCl).2.1), IntKind.i64.wrap (s2.2.1 - 1), ())
    else none
   else none
  else none
 else some (s2.1, ())
def r5fieldsN (fuel : Nat) (m : Im) (c : Int) : Option (List Tp × Unit) :=
 (rabove m.1 c).bind fun r1 =>
 loopF (r5fieldsL1 m r1) fuel (([] : List Tp), (IntKind.i64.wrap ((r1.1.length : Int) - 1), ()))
def sinN (n : Int) (c : Int) : Option (Bool × Unit) :=
 bif decide (n ≥ 0) then
  some (decide (n < c), ())
 else some (false, ())
def sallLen (m : Im) (l : List (List Tp)) : Prop := ((m.1.length ≤ lenMax ∧ ∀ x1 : Cl, x1 ∈ m.1 → (True ∧ ((x1.2.1.length ≤ lenMax ∧ ∀ x2 : Tp, x2 ∈ x1.2.1 → (True ∧ (True ∧ True))) ∧ ((x1.2.2.1.length ≤ lenMax ∧ ∀ x2 : Int, x2 ∈ x1.2.2.1 → True) ∧ True)))) ∧ ((m.2.1.length ≤ lenMax ∧ ∀ x1 : Tp, x1 ∈ m.2.1 → (True ∧ (True ∧ True))) ∧ ((m.2.2.1.length ≤ lenMax ∧ ∀ x1 : Int, x1 ∈ m.2.2.1 → True) ∧ ((m.2.2.2.1.length ≤ lenMax ∧ ∀ x1 : Mt, x1 ∈ m.2.2.2.1 → ((x1.1.length ≤ lenMax ∧ ∀ x2 : Tp, x2 ∈ x1.1 → (True ∧ (True ∧ True))) ∧ ((x1.2.1.length ≤ lenMax ∧ ∀ x2 : Tp, x2 ∈ x1.2.1 → (True ∧ (True ∧ True))) ∧ ((True ∧ (True ∧ True)) ∧ ((x1.2.2.2.1.length ≤ lenMax ∧ ∀ x2 : Ins, x2 ∈ x1.2.2.2.1 → (True ∧ (True ∧ (True ∧ True)))) ∧ (True ∧ (True ∧ ((x1.2.2.2.2.2.2.1.length ≤ lenMax ∧ ∀ x2 : Int, x2 ∈ x1.2.2.2.2.2.2.1 → True) ∧ True)))))))) ∧ ((m.2.2.2.2.1.length ≤ lenMax ∧ ∀ x1 : Int, x1 ∈ m.2.2.2.2.1 → True) ∧ (True ∧ (True ∧ True))))))) ∧ (l.length ≤ lenMax ∧ ∀ x1 : List Tp, x1 ∈ l → (x1.length ≤ lenMax ∧ ∀ x2 : Tp, x2 ∈ x1 → (True ∧ (True ∧ True)))) ∧ True
def sallL1 (m : Im) (l : List (List Tp)) (s1 : Int × Unit) (rec2 : (Int × Unit) → Option (Bool × Unit)) (s3 : Int × Unit) (rec4 : (Int × Unit) → Option (Bool × Unit)) : Option (Bool × Unit) :=
 bif decide (s3.1 < ((l.getD s1.1.toNat ([] : List Tp)).length : Int)) then
  bif decide (0 ≤ s3.1) && decide (s3.1 < (l.getD s1.1.toNat ([] : List Tp)).length) then
   bif !(kgood ((l.getD s1.1.toNat ([] : List Tp)).getD s3.1.toNat zTp) (m.1.length : Int)) then
    some (false, ())
   else rec4 (IntKind.i64.wrap (s3.1 + 1), ())
  else none
 else rec2 (IntKind.i64.wrap (s1.1 + 1), ())
def sallL2 (m : Im) (l : List (List Tp)) (fuel : Nat) (s1 : Int × Unit) (rec2 : (Int × Unit) → Option (Bool × Unit)) : Option (Bool × Unit) :=
 bif decide (s1.1 < (l.length : Int)) then
  bif decide (0 ≤ s1.1) && decide (s1.1 < l.length) then
   loopF (sallL1 m l s1 rec2) fuel ((0 : Int), ())
  else none
 else some (true, ())
def sallN (fuel : Nat) (m : Im) (l : List (List Tp)) : Option (Bool × Unit) :=
 loopF (sallL2 m l fuel) fuel ((0 : Int), ())
def saboveL1 (m : Im) (s1 : List Int × Unit) (s3 : Int × Int × Unit) (rec4 : (Int × Int × Unit) → Option (Int × List Int × Unit)) : Option (Int × List Int × Unit) :=
 bif decide (s3.2.1 ≥ 0) then
  bif decide (0 ≤ s3.2.1) && decide (s3.2.1 < m.1.length) then
   bif decide (0 ≤ s3.2.1) && decide (s3.2.1 < m.1.length) then
    rec4 (IntKind.i64.wrap (s3.1 + ((m.1.getD s3.2.1.toNat zCl).2.1.length : Int)), (m.1.getD s3.2.1.toNat zCl).1, ())
   else none
  else none
 else some (s3.1, s1.1, ())
def saboveN (fuel : Nat) (m : Im) (c : Int) : Option (Int × List Int × Unit) :=
 (bif decide (0 ≤ c) && decide (c < m.1.length) then
  bif decide ((m.1.getD c.toNat zCl).1 ≥ 0) then
   bif decide (0 ≤ (m.1.getD c.toNat zCl).1) && decide ((m.1.getD c.toNat zCl).1 < m.1.length) then
    some (.inl ((m.1.getD (m.1.getD c.toNat zCl).1.toNat zCl).2.2.1, ()))
   else none
  else some (.inl (([] : List Int), ()))
 else none : Option ((List Int × Unit) ⊕ (Int × List Int × Unit))).bind fun q => match q with
 | .inr r2 => some r2
 | .inl s1 =>
  bif decide (0 ≤ c) && decide (c < m.1.length) then
   loopF (saboveL1 m s1) fuel ((0 : Int), (m.1.getD c.toNat zCl).1, ())
  else none
def sfitsN (m : Im) (c : Int) (f : Int) : Option (Bool × Unit) :=
 bif decide (0 ≤ f) && decide (f < m.2.2.2.1.length) then
  bif decide (((m.2.2.2.1.getD f.toNat zMt).1.length : Int) > 0) then
   bif decide ((0 : Int) < (m.2.2.2.1.getD f.toNat zMt).1.length) then
    some ((ksub m.1 ((3 : Int), c, ()) ((m.2.2.2.1.getD f.toNat zMt).1.getD 0 zTp)), ())
   else none
  else some (false, ())
 else none
def salikeN (a : Mt) (b : Mt) : Option (Bool × Unit) :=
 bif decide ((a.1.length : Int) > 0) then
  bif decide ((b.1.length : Int) > 0) then
   bif decide ((1 : Int) ≤ (a.1.length : Int)) && decide ((a.1.length : Int) ≤ (a.1.length : Int)) then
    bif decide ((1 : Int) ≤ (b.1.length : Int)) && decide ((b.1.length : Int) ≤ (b.1.length : Int)) then
     bif (eqL ((a.1.take a.1.length).drop 1) ((b.1.take b.1.length).drop 1)) then
      some ((a.2.2.1.1 == b.2.2.1.1) && ((a.2.2.1.2.1 == b.2.2.1.2.1) && true), ())
     else some (false, ())
    else none
   else none
  else some (false, ())
 else some (false, ())
def sclassL1 (m : Im) (c : Int) (r1 : Int × List Int × Unit) (s2 : Int × Unit) (rec3 : (Int × Unit) → Option (Bool × Unit)) : Option (Bool × Unit) :=
 bif decide (s2.1 < ((m.1.getD c.toNat zCl).2.2.1.length : Int)) then
  bif decide (0 ≤ s2.1) && decide (s2.1 < (m.1.getD c.toNat zCl).2.2.1.length) then
   bif !(sin ((m.1.getD c.toNat zCl).2.2.1.getD s2.1.toNat 0) (m.2.2.2.1.length : Int)) then
    some (false, ())
   else 
    (sfits m c ((m.1.getD c.toNat zCl).2.2.1.getD s2.1.toNat 0)).bind fun r4 =>
    bif !r4.1 then
     some (false, ())
    else bif decide (s2.1 < (r1.2.1.length : Int)) then
     bif decide (0 ≤ (m.1.getD c.toNat zCl).2.2.1.getD s2.1.toNat 0) && decide ((m.1.getD c.toNat zCl).2.2.1.getD s2.1.toNat 0 < m.2.2.2.1.length) then
      bif decide (0 ≤ s2.1) && decide (s2.1 < r1.2.1.length) then
       bif decide (0 ≤ r1.2.1.getD s2.1.toNat 0) && decide (r1.2.1.getD s2.1.toNat 0 < m.2.2.2.1.length) then
        bif !(salike (m.2.2.2.1.getD ((m.1.getD c.toNat zCl).2.2.1.getD s2.1.toNat 0).toNat zMt) (m.2.2.2.1.getD (r1.2.1.getD s2.1.toNat 0).toNat zMt)) then
         some (false, ())
        else rec3 (IntKind.i64.wrap (s2.1 + 1), ())
       else none
      else none
     else none
    else rec3 (IntKind.i64.wrap (s2.1 + 1), ())
  else none
 else some (true, ())
def sclassN (fuel : Nat) (m : Im) (c : Int) : Option (Bool × Unit) :=
 bif decide (0 ≤ c) && decide (c < m.1.length) then
  bif decide ((m.1.getD c.toNat zCl).1 ≥ c) then
   some (false, ())
  else bif !(sall m [(m.1.getD c.toNat zCl).2.1]) then
   some (false, ())
  else 
   (sabove m c).bind fun r1 =>
   bif decide (IntKind.i64.wrap (r1.1 + ((m.1.getD c.toNat zCl).2.1.length : Int)) > 8) then
    some (false, ())
   else bif decide (((m.1.getD c.toNat zCl).2.2.1.length : Int) < (r1.2.1.length : Int)) then
    some (false, ())
   else loopF (sclassL1 m c r1) fuel ((0 : Int), ())
 else none
def sfieldsN (c : Int) (m : Im) : Option (Int × Unit) :=
 (sabove m c).bind fun r1 =>
 bif decide (0 ≤ c) && decide (c < m.1.length) then
  some (IntKind.i64.wrap (r1.1 + ((m.1.getD c.toNat zCl).2.1.length : Int)), ())
 else none
def sinstrN (m : Im) (x : Mt) (i : Ins) (f : Im × Unit) : Option (Bool × Unit) :=
 bif i.1 == 1 then
  some ((sin i.2.1 (m.2.2.1.length : Int)), ())
 else 
  (bif i.1 == 3 then
   some (.inl (true, ()))
  else some (.inl (i.1 == 4, ())) : Option ((Bool × Unit) ⊕ (Bool × Unit))).bind fun q => match q with
  | .inr r2 => some r2
  | .inl s1 =>
   bif s1.1 then
    some ((sin i.2.1 (IntKind.i64.wrap ((x.1.length : Int) + (x.2.1.length : Int)))), ())
   else 
    (bif i.1 == 18 then
     some (.inl (true, ()))
    else some (.inl (i.1 == 19, ())) : Option ((Bool × Unit) ⊕ (Bool × Unit))).bind fun q => match q with
    | .inr r4 => some r4
    | .inl s3 =>
     bif s3.1 then
      some ((sin i.2.1 (x.2.2.2.1.length : Int)), ())
     else 
      (bif i.1 == 22 then
       some (.inl (true, ()))
      else some (.inl (i.1 == 34, ())) : Option ((Bool × Unit) ⊕ (Bool × Unit))).bind fun q => match q with
      | .inr r6 => some r6
      | .inl s5 =>
       bif s5.1 then
        some ((sin i.2.1 (m.1.length : Int)), ())
       else 
        (bif i.1 == 27 then
         some (.inl (true, ()))
        else some (.inl (i.1 == 28, ())) : Option ((Bool × Unit) ⊕ (Bool × Unit))).bind fun q => match q with
        | .inr r8 => some r8
        | .inl s7 =>
         bif s7.1 then
          bif (sin i.2.1 (m.1.length : Int)) then
           (sfields i.2.1 f.1).bind fun r9 =>
           some ((sin i.2.2.1 r9.1), ())
          else some (false, ())
         else 
          (bif i.1 == 29 then
           some (.inl (true, ()))
          else some (.inl (i.1 == 30, ())) : Option ((Bool × Unit) ⊕ (Bool × Unit))).bind fun q => match q with
          | .inr r11 => some r11
          | .inl s10 =>
           bif s10.1 then
            some ((sin i.2.1 (m.2.1.length : Int)), ())
           else bif i.1 == 31 then
            some ((sin i.2.1 (m.2.2.2.1.length : Int)), ())
           else bif i.1 == 32 then
            bif (sin i.2.1 (m.1.length : Int)) then
             bif decide (0 ≤ i.2.1) && decide (i.2.1 < m.1.length) then
              some ((sin i.2.2.1 ((m.1.getD i.2.1.toNat zCl).2.2.1.length : Int)), ())
             else none
            else some (false, ())
           else some (true, ())
def smethodL1 (m : Im) (x : Mt) (s3 : Int × Unit) (rec4 : (Int × Unit) → Option (Bool × Unit)) : Option (Bool × Unit) :=
 bif decide (s3.1 < (x.2.2.2.1.length : Int)) then
  bif decide (0 ≤ s3.1) && decide (s3.1 < x.2.2.2.1.length) then
   (sinstr m x (x.2.2.2.1.getD s3.1.toNat zIns) (m, ())).bind fun r5 =>
   bif !r5.1 then
    some (false, ())
   else rec4 (IntKind.i64.wrap (s3.1 + 1), ())
  else none
 else some (true, ())
def smethodN (fuel : Nat) (m : Im) (x : Mt) : Option (Bool × Unit) :=
 (bif !(sall m [x.1, x.2.1]) then
  some (.inr (false, ()))
 else bif !((x.2.2.1.1 == 5) && ((x.2.2.1.2.1 == 0) && true)) then
  bif !(sall m [[x.2.2.1]]) then
   some (.inr (false, ()))
  else some (.inl ())
 else some (.inl ()) : Option (Unit ⊕ (Bool × Unit))).bind fun q => match q with
 | .inr r2 => some r2
 | .inl _ =>
  bif (x.2.2.2.1.length : Int) == 0 then
   some (false, ())
  else bif (x.2.2.2.2.2.2.1.length : Int) != (x.2.2.2.1.length : Int) then
   some (false, ())
  else bif decide (IntKind.i64.wrap ((x.1.length : Int) + (x.2.1.length : Int)) > 8) then
   some (false, ())
  else loopF (smethodL1 m x) fuel ((0 : Int), ())
def sentry1N (t : Tp) : Option (Bool × Unit) :=
 some ((t.1 == 1) && ((t.2.1 == 0) && true), ())
def sentry2N (t : Tp) (_f : Unit) : Option (Bool × Unit) :=
 some (!(sentry1 t), ())
def sentryN (m : Im) (f : Int) : Option (Bool × Unit) :=
 bif !(sin f (m.2.2.2.1.length : Int)) then
  some (false, ())
 else bif decide (0 ≤ f) && decide (f < m.2.2.2.1.length) then
  bif (sentry1 (m.2.2.2.1.getD f.toNat zMt).2.2.1) then
   some (!(containsEntry (m.2.2.2.1.getD f.toNat zMt).1 ((), ())), ())
  else bif ((m.2.2.2.1.getD f.toNat zMt).2.2.1.1) == 5 then
   some (!(containsEntry (m.2.2.2.1.getD f.toNat zMt).1 ((), ())), ())
  else some (false, ())
 else none
def scheckLen (m : Im) : Prop := ((m.1.length ≤ lenMax ∧ ∀ x1 : Cl, x1 ∈ m.1 → (True ∧ ((x1.2.1.length ≤ lenMax ∧ ∀ x2 : Tp, x2 ∈ x1.2.1 → (True ∧ (True ∧ True))) ∧ ((x1.2.2.1.length ≤ lenMax ∧ ∀ x2 : Int, x2 ∈ x1.2.2.1 → True) ∧ True)))) ∧ ((m.2.1.length ≤ lenMax ∧ ∀ x1 : Tp, x1 ∈ m.2.1 → (True ∧ (True ∧ True))) ∧ ((m.2.2.1.length ≤ lenMax ∧ ∀ x1 : Int, x1 ∈ m.2.2.1 → True) ∧ ((m.2.2.2.1.length ≤ lenMax ∧ ∀ x1 : Mt, x1 ∈ m.2.2.2.1 → ((x1.1.length ≤ lenMax ∧ ∀ x2 : Tp, x2 ∈ x1.1 → (True ∧ (True ∧ True))) ∧ ((x1.2.1.length ≤ lenMax ∧ ∀ x2 : Tp, x2 ∈ x1.2.1 → (True ∧ (True ∧ True))) ∧ ((True ∧ (True ∧ True)) ∧ ((x1.2.2.2.1.length ≤ lenMax ∧ ∀ x2 : Ins, x2 ∈ x1.2.2.2.1 → (True ∧ (True ∧ (True ∧ True)))) ∧ (True ∧ (True ∧ ((x1.2.2.2.2.2.2.1.length ≤ lenMax ∧ ∀ x2 : Int, x2 ∈ x1.2.2.2.2.2.2.1 → True) ∧ True)))))))) ∧ ((m.2.2.2.2.1.length ≤ lenMax ∧ ∀ x1 : Int, x1 ∈ m.2.2.2.2.1 → True) ∧ (True ∧ (True ∧ True))))))) ∧ True
def scheckL1 (m : Im) (s7 : Int × Unit) (rec8 : (Int × Unit) → Option (Int × Unit)) : Option (Int × Unit) :=
 bif decide (s7.1 < (m.2.2.2.2.1.length : Int)) then
  bif decide (0 ≤ s7.1) && decide (s7.1 < m.2.2.2.2.1.length) then
   (sentry m (m.2.2.2.2.1.getD s7.1.toNat 0)).bind fun r9 =>
   bif !r9.1 then
    some ((3 : Int), ())
   else rec8 (IntKind.i64.wrap (s7.1 + 1), ())
  else none
 else some ((0 : Int), ())
def scheckL2 (m : Im) (fuel : Nat) (s4 : Int × Unit) (rec5 : (Int × Unit) → Option (Int × Unit)) : Option (Int × Unit) :=
 bif decide (s4.1 < (m.2.2.2.1.length : Int)) then
  bif decide (0 ≤ s4.1) && decide (s4.1 < m.2.2.2.1.length) then
   (smethod m (m.2.2.2.1.getD s4.1.toNat zMt)).bind fun r6 =>
   bif !r6.1 then
    some ((3 : Int), ())
   else rec5 (IntKind.i64.wrap (s4.1 + 1), ())
  else none
 else loopF (scheckL1 m) fuel ((0 : Int), ())
def scheckL3 (m : Im) (fuel : Nat) (s1 : Int × Unit) (rec2 : (Int × Unit) → Option (Int × Unit)) : Option (Int × Unit) :=
 bif decide (s1.1 < (m.1.length : Int)) then
  (sclass m s1.1).bind fun r3 =>
  bif !r3.1 then
   some ((3 : Int), ())
  else rec2 (IntKind.i64.wrap (s1.1 + 1), ())
 else loopF (scheckL2 m fuel) fuel ((0 : Int), ())
def scheckN (fuel : Nat) (m : Im) : Option (Int × Unit) :=
 bif !(ifits m) then
  some ((2 : Int), ())
 else bif !(sall m [m.2.1]) then
  some ((3 : Int), ())
 else loopF (scheckL3 m fuel) fuel ((0 : Int), ())
end Go.Pli
