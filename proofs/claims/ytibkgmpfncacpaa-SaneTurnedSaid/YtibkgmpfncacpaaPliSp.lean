/- What functions of the program come to, in plain Lean. -/
import Derived.Test.YtibkgmpfncacpaaPMDefs
import Derived.Laws.BitsAllLaws
import Derived.Laws.Bits64
import Derived.Laws.BitsLemmas
namespace Go.Pli
open Go Go.PM
def encF : Nat → Nat → List Int
 | 0, v => [(v : Int)]
 | k + 1, v => if v < 128 then [(v : Int)] else ((128 + v % 128 : Nat) : Int) :: encF k (v / 128)
def enc (v : Nat) : List Int := encF 10 v
def roomFor (b : List Int) : Bool := Nat.blt (b.length + 20) rowMax
def put (b : List Int) (n : Int) : Option (List Int × Unit) := bif roomFor b then some (b ++ enc (IntKind.u64.wrap (max n 0)).toNat, ()) else none
def decF : Nat → Nat → Nat → List Int → Option (Nat × Nat × Bool)
 | 0, _, _, _ => none
 | _ + 1, _, _, [] => none
 | k + 1, i, v, c :: l => if c < 128 then some (v + 128 ^ i * (c.toNat % 128), i + 1, i == 0 || decide (0 < c)) else decF k (i + 1) (v + 128 ^ i * (c.toNat % 128)) l
def bytesB (l : List Int) : Bool := l.all fun c => decide (0 ≤ c) && decide (c < 256)
abbrev Rd := List Int × Bool × Unit
def next (r : Rd) : Option (Int × Bool × Rd × Unit) :=
 bif bytesB (r.1.take 5) then (match decF 5 0 0 r.1 with
  | some (v, n, ok) => some ((v : Int), ok, (r.1.drop n, r.2.1, ()), ())
  | none => some (0, false, r, ())) else none
def rin (l : List Int) (x : Int) : Option (Bool × Unit) := bif decide (l.length < 9223372036854775807) then some (l.contains x, ()) else none
def iargs (o : Int) : Int :=
 bif ([1, 3, 4, 18, 19, 22, 23, 29, 30, 31, 34] : List Int).contains o then 1
 else bif o == 27 || (o == 28 || o == 32) then 2
 else bif decide (o < 1) || decide (o > 34) then -1 else 0
def rargs (o : Int) : Int := iargs o
abbrev Ins := Int × Int × Int × Unit
def within (n c a : Int) : Bool := bif decide (a ≥ c) then n == 0 else decide (n ≥ 0) && decide (n ≤ 255)
def igood (i : Ins) : Bool := decide (iargs i.1 ≥ 0) && (within i.2.1 (iargs i.1) 0 && within i.2.2.1 (iargs i.1) 1)
def rinstr (i : Ins) : Bool := igood i
end Go.Pli

namespace Go.Pli
open Go Go.PM
theorem w64' {n : Int} (h0 : -9223372036854775808 ≤ n) (h1 : n < 9223372036854775808) : IntKind.i64.wrap n = n := by
 rw [IntKind.wrap_i64]; omega
theorem wsucc {k n : Nat} (h : k < n) (hn : n ≤ lenMax) : IntKind.i64.wrap ((k : Int) + 1) = ((k + 1 : Nat) : Int) := by
 simp only [lenMax] at hn
 rw [w64'] <;> omega
theorem dlt {k n : Nat} (h : k < n) : decide ((k : Int) < (n : Int)) = true := decide_eq_true (by omega)
theorem dnlt (n : Nat) : decide ((n : Int) < (n : Int)) = false := decide_eq_false (by omega)
theorem dge (k : Nat) : decide (0 ≤ (k : Int)) = true := decide_eq_true (by omega)
theorem dge0 (k : Nat) : decide ((k : Int) ≥ 0) = true := decide_eq_true (by omega)
theorem loopF_step {S R : Type} (L : S → (S → Option R) → Option R) (n : Nat) (s : S) : loopF L (n + 1) s = L s (loopF L n) := rfl
theorem loop_all {α σ R : Type} {L : σ → (σ → Option R) → Option R} {xs : List α} {st : Nat → σ} {p : α → Bool} {ex fin : Option R}
  (h1 : ∀ (k : Nat) (x : α) (rec), xs[k]? = some x → k < xs.length → L (st k) rec = bif p x then rec (st (k + 1)) else ex)
  (h2 : ∀ rec, L (st xs.length) rec = fin) : ∀ F : Nat, xs.length < F → loopF L F (st 0) = bif xs.all p then fin else ex := by
 have key : ∀ (l pre : List α) (F : Nat), xs = pre ++ l → l.length < F → loopF L F (st pre.length) = bif l.all p then fin else ex := by
  intro l
  induction l with
  | nil =>
   intro pre F hx hF
   obtain ⟨F, rfl⟩ : ∃ n, F = n + 1 := ⟨F - 1, by simp at hF; omega⟩
   rw [List.append_nil] at hx
   subst hx
   rw [loopF_step, h2]
   rfl
  | cons x l ih =>
   intro pre F hx hF
   obtain ⟨F, rfl⟩ : ∃ n, F = n + 1 := ⟨F - 1, by simp at hF; omega⟩
   have hk : xs[pre.length]? = some x := by rw [hx]; simp
   have hl : pre.length < xs.length := by rw [hx]; simp
   rw [loopF_step, h1 pre.length x _ hk hl]
   have := ih (pre ++ [x]) F (by rw [hx]; simp) (by simp only [List.length_cons] at hF; omega)
   simp only [List.length_append, List.length_cons, List.length_nil, Nat.zero_add] at this
   rw [this, List.all_cons]
   cases p x <;> rfl
 intro F hF
 exact key xs [] F rfl hF
def indexF {α : Type} (p : α → Bool) : Nat → List α → Int
 | _, [] => -1
 | k, x :: l => bif p x then (k : Int) else indexF p (k + 1) l
theorem indexF_any {α : Type} (p : α → Bool) : ∀ (l : List α) (k : Nat), decide (indexF p k l ≥ 0) = l.any p
 | [], _ => rfl
 | x :: l, k => by
  simp only [indexF, List.any_cons]
  by_cases hp : p x = true
  ·simp [hp]
  ·have hp : p x = false := by simpa using hp
   simpa [hp] using indexF_any p l (k + 1)
theorem loop_index {α σ : Type} {L : σ → (σ → Option (Int × Unit)) → Option (Int × Unit)} {xs : List α} {st : Nat → σ} {p : α → Bool}
  (h1 : ∀ (k : Nat) (x : α) (rec), xs[k]? = some x → k < xs.length → L (st k) rec = bif p x then some ((k : Int), ()) else rec (st (k + 1)))
  (h2 : ∀ rec, L (st xs.length) rec = some (-1, ())) : ∀ F : Nat, xs.length < F → loopF L F (st 0) = some (indexF p 0 xs, ()) := by
 have key : ∀ (l pre : List α) (F : Nat), xs = pre ++ l → l.length < F → loopF L F (st pre.length) = some (indexF p pre.length l, ()) := by
  intro l
  induction l with
  | nil =>
   intro pre F hx hF
   obtain ⟨F, rfl⟩ : ∃ n, F = n + 1 := ⟨F - 1, by simp at hF; omega⟩
   rw [List.append_nil] at hx
   subst hx
   rw [loopF_step, h2]
   rfl
  | cons x l ih =>
   intro pre F hx hF
   obtain ⟨F, rfl⟩ : ∃ n, F = n + 1 := ⟨F - 1, by simp at hF; omega⟩
   have hk : xs[pre.length]? = some x := by rw [hx]; simp
   have hl : pre.length < xs.length := by rw [hx]; simp
   rw [loopF_step, h1 pre.length x _ hk hl]
   have := ih (pre ++ [x]) F (by rw [hx]; simp) (by simp only [List.length_cons] at hF; omega)
   simp only [List.length_append, List.length_cons, List.length_nil, Nat.zero_add] at this
   simp only [indexF, this]
   cases p x <;> rfl
 intro F hF
 exact key xs [] F rfl hF
theorem getD_some {α : Type} {xs : List α} {k : Nat} {x d : α} (h : xs[k]? = some x) : xs.getD k d = x := by simp [h]
end Go.Pli

namespace Go.Pli
open Go Go.PM
def putL1 (s1 : List Int × Int × Unit) (rec2 : (List Int × Int × Unit) → Option (List Int × Unit)) : Option (List Int × Unit) :=
 bif decide (s1.2.1 ≥ 128) then
  bif decide (s1.1.length + [IntKind.u8.wrap ((BitVec.ofInt 8 (IntKind.u8.wrap (s1.2.1.tmod 128)) ||| BitVec.ofInt 8 128).toNat)].length < rowMax) then
   rec2 (s1.1 ++ [IntKind.u8.wrap ((BitVec.ofInt 8 (IntKind.u8.wrap (s1.2.1.tmod 128)) ||| BitVec.ofInt 8 128).toNat)], IntKind.u64.wrap (s1.2.1.tdiv 128), ())
  else none
 else bif decide (s1.1.length + [IntKind.u8.wrap s1.2.1].length < rowMax) then
  some (s1.1 ++ [IntKind.u8.wrap s1.2.1], ())
 else none
def putN (fuel : Nat) (b : List Int) (n : Int) : Option (List Int × Unit) :=
 loopF putL1 fuel (b, IntKind.u64.wrap (max n 0), ())
def rinL1 (l : List Int) (x : Int) (s1 : Int × Unit) (rec2 : (Int × Unit) → Option (Bool × Unit)) : Option (Bool × Unit) :=
 bif decide (s1.1 < (l.length : Int)) then
  bif decide (0 ≤ s1.1) && decide (s1.1 < l.length) then
   bif (l.getD s1.1.toNat 0) == x then
    some (true, ())
   else rec2 (IntKind.i64.wrap (s1.1 + 1), ())
  else none
 else some (false, ())
def rinN (fuel : Nat) (l : List Int) (x : Int) : Option (Bool × Unit) :=
 loopF (rinL1 l x) fuel ((0 : Int), ())
def rargsN (o : Int) : Option (Int × Unit) :=
 bif decide (o < 1) then
  some ((-1 : Int), ())
 else bif decide (o > 34) then
  some ((-1 : Int), ())
 else 
  (rin ([1, 3, 4, 18, 19, 22, 23, 29, 30, 31, 34] : List Int) o).bind fun r1 =>
  bif r1.1 then
   some ((1 : Int), ())
  else bif o == 27 then
   some ((2 : Int), ())
  else bif o == 28 then
   some ((2 : Int), ())
  else bif o == 32 then
   some ((2 : Int), ())
  else some ((0 : Int), ())
def iargsN (o : Int) : Option (Int × Unit) :=
 (bif o == 1 then
  some (.inl (true, ()))
 else bif o == 3 then
  some (.inl (true, ()))
 else bif o == 4 then
  some (.inl (true, ()))
 else bif o == 18 then
  some (.inl (true, ()))
 else bif o == 19 then
  some (.inl (true, ()))
 else bif o == 22 then
  some (.inl (true, ()))
 else bif o == 23 then
  some (.inl (true, ()))
 else bif o == 29 then
  some (.inl (true, ()))
 else bif o == 30 then
  some (.inl (true, ()))
 else bif o == 31 then
  some (.inl (true, ()))
 else some (.inl (o == 34, ())) : Option ((Bool × Unit) ⊕ (Int × Unit))).bind fun q => match q with
 | .inr r2 => some r2
 | .inl s1 =>
  bif s1.1 then
   some ((1 : Int), ())
  else bif o == 27 then
   some ((2 : Int), ())
  else bif o == 28 then
   some ((2 : Int), ())
  else bif o == 32 then
   some ((2 : Int), ())
  else bif decide (o < 1) then
   some ((-1 : Int), ())
  else bif decide (o > 34) then
   some ((-1 : Int), ())
  else some ((0 : Int), ())
def withinN (n : Int) (c : Int) (a : Int) : Option (Bool × Unit) :=
 bif decide (a ≥ c) then
  some (n == 0, ())
 else bif decide (n ≥ 0) then
  some (decide (n ≤ 255), ())
 else some (false, ())
def igoodN (i : Int × Int × Int × Unit) : Option (Bool × Unit) :=
 bif decide ((iargs i.1) ≥ 0) then
  bif (within i.2.1 (iargs i.1) (0 : Int)) then
   some ((within i.2.2.1 (iargs i.1) (1 : Int)), ())
  else some (false, ())
 else some (false, ())
def rinstrN (i : Int × Int × Int × Unit) : Option (Bool × Unit) :=
 (bif decide ((rargs i.1) < 0) then
  some (.inr (false, ()))
 else bif decide ((rargs i.1) < 1) then
  bif i.2.1 != 0 then
   some (.inr (false, ()))
  else bif decide ((rargs i.1) < 2) then
   bif i.2.2.1 != 0 then
    some (.inr (false, ()))
   else some (.inl ())
  else some (.inl ())
 else bif decide ((rargs i.1) < 2) then
  bif i.2.2.1 != 0 then
   some (.inr (false, ()))
  else some (.inl ())
 else some (.inl ()) : Option (Unit ⊕ (Bool × Unit))).bind fun q => match q with
 | .inr r2 => some r2
 | .inl _ =>
  bif decide (i.2.1 ≥ 0) then
   bif decide (i.2.1 ≤ 255) then
    bif decide (i.2.2.1 ≥ 0) then
     some (decide (i.2.2.1 ≤ 255), ())
    else some (false, ())
   else some (false, ())
  else some (false, ())
end Go.Pli

namespace Go.Pli
open Go Go.PM
abbrev Tp := Int × Int × Unit
abbrev Cl := Int × List Tp × List Int × Unit
abbrev Mt := List Tp × List Tp × Tp × List Ins × Int × Int × List Int × Unit
abbrev Im := List Cl × List Tp × List Int × List Mt × List Int × Int × Int × Unit
abbrev zTp : Tp := (0, 0, ())
abbrev zIns : Ins := (0, 0, 0, ())
abbrev zCl : Cl := (0, [], [], ())
abbrev zMt : Mt := ([], [], zTp, [], 0, 0, [], ())
abbrev zIm : Im := ([], [], [], [], [], 0, 0, ())
def eqL {α : Type} [BEq α] (a b : List α) : Bool := a == b
def iwithin (n m : Int) : Bool := decide (0 ≤ n) && decide (n ≤ m)
def ityp (t : Tp) : Bool := iwithin t.1 5 && (t.2.1 == 0 || (t.1 == 3 && iwithin t.2.1 7))
def ityp1 (t : Tp) : Bool := !ityp t
def itypes (l : List Tp) (m : Int) : Bool := decide ((l.length : Int) ≤ m) && l.all ityp
def inum1 (n m : Int) : Bool := !iwithin n m
def inums (l : List Int) (c m : Int) : Bool := decide ((l.length : Int) ≤ c) && l.all fun n => iwithin n m
def imethod (x : Mt) : Bool :=
 itypes x.1 4 && (itypes x.2.1 8 && (ityp x.2.2.1 && (decide ((x.2.2.2.1.length : Int) ≤ 64) && (x.2.2.2.1.all igood && (iwithin x.2.2.2.2.1 8 && (iwithin x.2.2.2.2.2.1 4096 && inums x.2.2.2.2.2.2.1 64 4096))))))
def iclass (x : Cl) : Bool := decide (-1 ≤ x.1) && (decide (x.1 < 8) && (itypes x.2.1 8 && inums x.2.2.1 4 11))
def ifits1 (x : Cl) : Bool := !iclass x
def ifits2 (x : Mt) : Bool := !imethod x
def ifits (m : Im) : Bool :=
 decide ((m.1.length : Int) ≤ 8) && (itypes m.2.1 8 && (decide ((m.2.2.1.length : Int) ≤ 16) && (decide ((m.2.2.2.1.length : Int) ≤ 12) && (m.1.all iclass && (m.2.2.2.1.all imethod &&
  (inums m.2.2.2.2.1 12 11 && (iwithin m.2.2.2.2.2.1 4096 && iwithin m.2.2.2.2.2.2.1 4096)))))))
def indexClass (l : List Cl) (_ : Unit) : Int := indexF ifits1 0 l
def indexMethod (l : List Mt) (_ : Unit) : Int := indexF ifits2 0 l
def indexTypes (l : List Tp) (_ : Unit) : Int := indexF ityp1 0 l
def indexNums (l : List Int) (c : Int × Unit) : Int := indexF (fun n => inum1 n c.1) 0 l
def containsClass (l : List Cl) (_ : Unit) : Bool := l.any ifits1
def containsMethod (l : List Mt) (_ : Unit) : Bool := l.any ifits2
def containsTypes (l : List Tp) (_ : Unit) : Bool := l.any ityp1
def containsNums (l : List Int) (c : Int × Unit) : Bool := l.any fun n => inum1 n c.1
def r5in (n a b : Int) : Bool := decide (a ≤ n) && decide (n ≤ b)
def r5list (l : List Int) (c m : Int) : Bool := inums l c m
def r5typ (t : Tp) : Bool := ityp t
def r5types (l : List Tp) (c : Int) : Bool := itypes l c
def r5fits (m : Im) : Bool := ifits m
def kgood (t : Tp) (n : Int) : Bool := bif t.1 == 1 || t.1 == 2 then t.2.1 == 0 else t.1 == 3 && (decide (0 ≤ t.2.1) && decide (t.2.1 < n))
def rgood (t : Tp) (n : Int) : Bool := kgood t n
def kisref (t : Tp) : Bool := t.1 == 2 || (t.1 == 3 || t.1 == 4)
def risref (t : Tp) : Bool := kisref t
def supC (l : List Cl) (c : Int) : Int := (l.getD c.toNat zCl).1
def kup (l : List Cl) (c : Int) : Int := bif decide (c < 0) || (decide (c ≥ (l.length : Int)) || decide (supC l c ≥ c)) then -1 else supC l c
def chainF (l : List Cl) : Nat → Int → List Int
 | 0, _ => []
 | n + 1, c => bif decide (c < 0) then [] else c :: chainF l n (kup l c)
def chain (l : List Cl) (c : Int) : List Int := chainF l (c.toNat + 1) c
def kbelow (l : List Cl) (a b : Int) : Bool := decide (0 ≤ b) && (decide (b < (l.length : Int)) && (decide (a < (l.length : Int)) && (chain l a).contains b))
def ksub (l : List Cl) (a b : Tp) : Bool := bif a.1 == 4 then kisref b else bif a.1 == 3 && b.1 == 3 then kbelow l a.2.1 b.2.1 else a == b && (a.1 == 1 || a.1 == 2)
def okL {α : Type} (l : List α) : Bool := Nat.blt l.length 1000000
def raboveB (l : List Cl) (c : Int) : List Int := bif decide (c < (l.length : Int)) then chain l c else []
def rabove (l : List Cl) (c : Int) : Option (List Int × Unit) := bif okL l then some (raboveB l c, ()) else none
def rsubB (l : List Cl) (a b : Tp) : Bool := bif a.1 == 4 then kisref b else bif a.1 == 3 then b.1 == 3 && (raboveB l a.2.1).contains b.2.1 else a == b && (a.1 == 1 || a.1 == 2)
def rsub (l : List Cl) (a b : Tp) : Option (Bool × Unit) := bif okL l then some (rsubB l a b, ()) else none
def rtypes (a b : List Tp) : Bool := a == b
def sin (n c : Int) : Bool := decide (0 ≤ n) && decide (n < c)
def goods (m : Im) (l : List Tp) : Bool := l.all fun t => kgood t (m.1.length : Int)
def r5good (m : Im) (l : List Tp) : Bool := goods m l
def sall (m : Im) (l : List (List Tp)) : Bool := l.all (goods m)
def clOf (m : Im) (c : Int) : Cl := m.1.getD c.toNat zCl
def mtOf (m : Im) (f : Int) : Mt := m.2.2.2.1.getD f.toNat zMt
def sumL : List Nat → Nat
 | [] => 0
 | n :: l => n + sumL l
def fieldsC (m : Im) (c : Int) : Nat := sumL ((chain m.1 c).map fun s => (clOf m s).2.1.length)
def upSlots (m : Im) (c : Int) : List Int := bif decide (0 ≤ supC m.1 c) then (clOf m (supC m.1 c)).2.2.1 else []
def alike (a b : Mt) : Bool := decide (0 < a.1.length) && (decide (0 < b.1.length) && (a.1.drop 1 == b.1.drop 1 && a.2.2.1 == b.2.2.1))
def salike (a b : Mt) : Bool := alike a b
def fitsB (m : Im) (c f : Int) : Bool := decide (0 < (mtOf m f).1.length) && ksub m.1 (3, c, ()) ((mtOf m f).1.getD 0 zTp)
def slotB (m : Im) (c : Int) (n : Nat) (f : Int) : Bool :=
 sin f (m.2.2.2.1.length : Int) && (fitsB m c f && (!decide (n < (upSlots m c).length) || alike (mtOf m f) (mtOf m ((upSlots m c).getD n 0))))
def allN {α : Type} (p : Nat → α → Bool) : Nat → List α → Bool
 | _, [] => true
 | k, x :: l => p k x && allN p (k + 1) l
def classB (m : Im) (c : Int) : Bool :=
 decide (supC m.1 c < c) && (goods m (clOf m c).2.1 && (decide (fieldsC m c ≤ 8) && (decide ((upSlots m c).length ≤ (clOf m c).2.2.1.length) && allN (slotB m c) 0 (clOf m c).2.2.1)))
def ahead (m : Im) (c : Int) : Bool := (List.range c.toNat).all fun k => classB m (k : Int)
def preC (m : Im) (c : Int) : Bool := ifits m && (decide (0 ≤ c) && (decide (c < (m.1.length : Int)) && ahead m c))
def allC (m : Im) : Bool := (List.range m.1.length).all fun k => classB m (k : Int)
def upFields (m : Im) (c : Int) : Nat := sumL ((chain m.1 (supC m.1 c)).map fun s => (clOf m s).2.1.length)
def sabove (m : Im) (c : Int) : Option (Int × List Int × Unit) := bif preC m c && decide (supC m.1 c < c) then some ((upFields m c : Int), upSlots m c, ()) else none
def sfits (m : Im) (c f : Int) : Option (Bool × Unit) := bif sin f (m.2.2.2.1.length : Int) then some (fitsB m c f, ()) else none
def sclass (m : Im) (c : Int) : Option (Bool × Unit) := bif preC m c then some (classB m c, ()) else none
def r5fields (m : Im) (c : Int) : Option (List Tp × Unit) := bif ifits m then some ((((raboveB m.1 c).reverse).map fun s => (clOf m s).2.1).flatten, ()) else none
def r5class (m : Im) (c : Int) : Option (Bool × Unit) := bif preC m c then some (classB m c, ()) else none
def sfields (c : Int) (m : Im) : Option (Int × Unit) := bif ifits m && (allC m && sin c (m.1.length : Int)) then some ((fieldsC m c : Int), ()) else none
def instrB (m : Im) (x : Mt) (i : Ins) : Bool :=
 bif i.1 == 1 then sin i.2.1 (m.2.2.1.length : Int)
 else bif i.1 == 3 || i.1 == 4 then sin i.2.1 ((x.1.length + x.2.1.length : Nat) : Int)
 else bif i.1 == 18 || i.1 == 19 then sin i.2.1 (x.2.2.2.1.length : Int)
 else bif i.1 == 22 || i.1 == 34 then sin i.2.1 (m.1.length : Int)
 else bif i.1 == 27 || i.1 == 28 then sin i.2.1 (m.1.length : Int) && sin i.2.2.1 (fieldsC m i.2.1 : Int)
 else bif i.1 == 29 || i.1 == 30 then sin i.2.1 (m.2.1.length : Int)
 else bif i.1 == 31 then sin i.2.1 (m.2.2.2.1.length : Int)
 else bif i.1 == 32 then sin i.2.1 (m.1.length : Int) && sin i.2.2.1 ((clOf m i.2.1).2.2.1.length : Int)
 else true
def preM (m : Im) (x : Mt) : Bool := ifits m && (allC m && imethod x)
def sinstr (m : Im) (x : Mt) (i : Ins) (f : Im × Unit) : Option (Bool × Unit) := bif preM m x && f.1 == m then some (instrB m x i, ()) else none
def r5named (m : Im) (x : Mt) (i : Ins) : Option (Bool × Unit) := bif preM m x && igood i then some (instrB m x i, ()) else none
def methodB (m : Im) (x : Mt) : Bool :=
 goods m x.1 && (goods m x.2.1 && ((x.2.2.1 == (5, 0, ()) || kgood x.2.2.1 (m.1.length : Int)) && (decide (x.2.2.2.1.length ≠ 0) && (decide (x.2.2.2.2.2.2.1.length = x.2.2.2.1.length) &&
  (decide (x.1.length + x.2.1.length ≤ 8) && x.2.2.2.1.all (instrB m x))))))
def smethod (m : Im) (x : Mt) : Option (Bool × Unit) := bif preM m x then some (methodB m x, ()) else none
def r5method (m : Im) (x : Mt) : Option (Bool × Unit) := bif preM m x then some (methodB m x, ()) else none
def sentry1 (t : Tp) : Bool := t.1 == 1 && t.2.1 == 0
def sentry2 (t : Tp) (_ : Unit) : Bool := !sentry1 t
def indexEntry (l : List Tp) (_ : Unit × Unit) : Int := indexF (fun t => sentry2 t ()) 0 l
def containsEntry (l : List Tp) (_ : Unit × Unit) : Bool := l.any fun t => sentry2 t ()
def entryB (m : Im) (f : Int) : Bool := sin f (m.2.2.2.1.length : Int) && ((sentry1 (mtOf m f).2.2.1 || (mtOf m f).2.2.1.1 == 5) && (mtOf m f).1.all sentry1)
def sentry (m : Im) (f : Int) : Option (Bool × Unit) := some (entryB m f, ())
def saneB (m : Im) : Bool := goods m m.2.1 && (allC m && (m.2.2.2.1.all (methodB m) && m.2.2.2.2.1.all (entryB m)))
def scheck (m : Im) : Int := bif ifits m then (bif saneB m then 0 else 3) else 2
def r5sane (m : Im) : Int := scheck m
def total5 (m : Im) : Nat := m.1.length + m.2.1.length + m.2.2.1.length + m.2.2.2.1.length + m.2.2.2.2.1.length
def small6 (m : Im) : Bool := decide (total5 m ≤ 300) && m.2.2.2.1.all fun x => decide (x.1.length + x.2.1.length + x.2.2.2.1.length + x.2.2.2.2.2.2.1.length ≤ 1000)
end Go.Pli

namespace Go.Pli
open Go Go.PM
def indexClassLen (l : List Cl) (_c : Unit) : Prop := (l.length ≤ lenMax ∧ ∀ x1 : Cl, x1 ∈ l → (True ∧ ((x1.2.1.length ≤ lenMax ∧ ∀ x2 : Tp, x2 ∈ x1.2.1 → (True ∧ (True ∧ True))) ∧ ((x1.2.2.1.length ≤ lenMax ∧ ∀ x2 : Int, x2 ∈ x1.2.2.1 → True) ∧ True)))) ∧ True ∧ True
def indexClassL1 (l : List Cl) (s1 : Int × Unit) (rec2 : (Int × Unit) → Option (Int × Unit)) : Option (Int × Unit) :=
 bif decide (s1.1 < (l.length : Int)) then
  bif decide (0 ≤ s1.1) && decide (s1.1 < l.length) then
   bif (ifits1 (l.getD s1.1.toNat zCl)) then
    some (s1.1, ())
   else rec2 (IntKind.i64.wrap (s1.1 + 1), ())
  else none
 else some ((-1 : Int), ())
def indexClassN (fuel : Nat) (l : List Cl) (_c : Unit) : Option (Int × Unit) :=
 loopF (indexClassL1 l) fuel ((0 : Int), ())
def containsClassLen (l : List Cl) (_c : Unit) : Prop := (l.length ≤ lenMax ∧ ∀ x1 : Cl, x1 ∈ l → (True ∧ ((x1.2.1.length ≤ lenMax ∧ ∀ x2 : Tp, x2 ∈ x1.2.1 → (True ∧ (True ∧ True))) ∧ ((x1.2.2.1.length ≤ lenMax ∧ ∀ x2 : Int, x2 ∈ x1.2.2.1 → True) ∧ True)))) ∧ True ∧ True
def containsClassN (l : List Cl) (c : Unit) : Option (Bool × Unit) :=
 some (decide ((indexClass l c) ≥ 0), ())
def indexMethodLen (l : List Mt) (_c : Unit) : Prop := (l.length ≤ lenMax ∧ ∀ x1 : Mt, x1 ∈ l → ((x1.1.length ≤ lenMax ∧ ∀ x2 : Tp, x2 ∈ x1.1 → (True ∧ (True ∧ True))) ∧ ((x1.2.1.length ≤ lenMax ∧ ∀ x2 : Tp, x2 ∈ x1.2.1 → (True ∧ (True ∧ True))) ∧ ((True ∧ (True ∧ True)) ∧ ((x1.2.2.2.1.length ≤ lenMax ∧ ∀ x2 : Ins, x2 ∈ x1.2.2.2.1 → (True ∧ (True ∧ (True ∧ True)))) ∧ (True ∧ (True ∧ ((x1.2.2.2.2.2.2.1.length ≤ lenMax ∧ ∀ x2 : Int, x2 ∈ x1.2.2.2.2.2.2.1 → True) ∧ True)))))))) ∧ True ∧ True
def indexMethodL1 (l : List Mt) (s1 : Int × Unit) (rec2 : (Int × Unit) → Option (Int × Unit)) : Option (Int × Unit) :=
 bif decide (s1.1 < (l.length : Int)) then
  bif decide (0 ≤ s1.1) && decide (s1.1 < l.length) then
   bif (ifits2 (l.getD s1.1.toNat zMt)) then
    some (s1.1, ())
   else rec2 (IntKind.i64.wrap (s1.1 + 1), ())
  else none
 else some ((-1 : Int), ())
def indexMethodN (fuel : Nat) (l : List Mt) (_c : Unit) : Option (Int × Unit) :=
 loopF (indexMethodL1 l) fuel ((0 : Int), ())
def containsMethodLen (l : List Mt) (_c : Unit) : Prop := (l.length ≤ lenMax ∧ ∀ x1 : Mt, x1 ∈ l → ((x1.1.length ≤ lenMax ∧ ∀ x2 : Tp, x2 ∈ x1.1 → (True ∧ (True ∧ True))) ∧ ((x1.2.1.length ≤ lenMax ∧ ∀ x2 : Tp, x2 ∈ x1.2.1 → (True ∧ (True ∧ True))) ∧ ((True ∧ (True ∧ True)) ∧ ((x1.2.2.2.1.length ≤ lenMax ∧ ∀ x2 : Ins, x2 ∈ x1.2.2.2.1 → (True ∧ (True ∧ (True ∧ True)))) ∧ (True ∧ (True ∧ ((x1.2.2.2.2.2.2.1.length ≤ lenMax ∧ ∀ x2 : Int, x2 ∈ x1.2.2.2.2.2.2.1 → True) ∧ True)))))))) ∧ True ∧ True
def containsMethodN (l : List Mt) (c : Unit) : Option (Bool × Unit) :=
 some (decide ((indexMethod l c) ≥ 0), ())
def indexTypesLen (l : List Tp) (_c : Unit) : Prop := (l.length ≤ lenMax ∧ ∀ x1 : Tp, x1 ∈ l → (True ∧ (True ∧ True))) ∧ True ∧ True
def indexTypesL1 (l : List Tp) (s1 : Int × Unit) (rec2 : (Int × Unit) → Option (Int × Unit)) : Option (Int × Unit) :=
 bif decide (s1.1 < (l.length : Int)) then
  bif decide (0 ≤ s1.1) && decide (s1.1 < l.length) then
   bif (ityp1 (l.getD s1.1.toNat zTp)) then
    some (s1.1, ())
   else rec2 (IntKind.i64.wrap (s1.1 + 1), ())
  else none
 else some ((-1 : Int), ())
def indexTypesN (fuel : Nat) (l : List Tp) (_c : Unit) : Option (Int × Unit) :=
 loopF (indexTypesL1 l) fuel ((0 : Int), ())
def containsTypesLen (l : List Tp) (_c : Unit) : Prop := (l.length ≤ lenMax ∧ ∀ x1 : Tp, x1 ∈ l → (True ∧ (True ∧ True))) ∧ True ∧ True
def containsTypesN (l : List Tp) (c : Unit) : Option (Bool × Unit) :=
 some (decide ((indexTypes l c) ≥ 0), ())
def indexEntryLen (l : List Tp) (_c : Unit × Unit) : Prop := (l.length ≤ lenMax ∧ ∀ x1 : Tp, x1 ∈ l → (True ∧ (True ∧ True))) ∧ (True ∧ True) ∧ True
def indexEntryL1 (l : List Tp) (c : Unit × Unit) (s1 : Int × Unit) (rec2 : (Int × Unit) → Option (Int × Unit)) : Option (Int × Unit) :=
 bif decide (s1.1 < (l.length : Int)) then
  bif decide (0 ≤ s1.1) && decide (s1.1 < l.length) then
   bif (sentry2 (l.getD s1.1.toNat zTp) c.1) then
    some (s1.1, ())
   else rec2 (IntKind.i64.wrap (s1.1 + 1), ())
  else none
 else some ((-1 : Int), ())
def indexEntryN (fuel : Nat) (l : List Tp) (c : Unit × Unit) : Option (Int × Unit) :=
 loopF (indexEntryL1 l c) fuel ((0 : Int), ())
def containsEntryLen (l : List Tp) (_c : Unit × Unit) : Prop := (l.length ≤ lenMax ∧ ∀ x1 : Tp, x1 ∈ l → (True ∧ (True ∧ True))) ∧ (True ∧ True) ∧ True
def containsEntryN (l : List Tp) (c : Unit × Unit) : Option (Bool × Unit) :=
 some (decide ((indexEntry l c) ≥ 0), ())
def indexNumsLen (l : List Int) (_c : Int × Unit) : Prop := (l.length ≤ lenMax ∧ ∀ x1 : Int, x1 ∈ l → True) ∧ (True ∧ True) ∧ True
def indexNumsL1 (l : List Int) (c : Int × Unit) (s1 : Int × Unit) (rec2 : (Int × Unit) → Option (Int × Unit)) : Option (Int × Unit) :=
 bif decide (s1.1 < (l.length : Int)) then
  bif decide (0 ≤ s1.1) && decide (s1.1 < l.length) then
   bif (inum1 (l.getD s1.1.toNat 0) c.1) then
    some (s1.1, ())
   else rec2 (IntKind.i64.wrap (s1.1 + 1), ())
  else none
 else some ((-1 : Int), ())
def indexNumsN (fuel : Nat) (l : List Int) (c : Int × Unit) : Option (Int × Unit) :=
 loopF (indexNumsL1 l c) fuel ((0 : Int), ())
def containsNumsLen (l : List Int) (_c : Int × Unit) : Prop := (l.length ≤ lenMax ∧ ∀ x1 : Int, x1 ∈ l → True) ∧ (True ∧ True) ∧ True
def containsNumsN (l : List Int) (c : Int × Unit) : Option (Bool × Unit) :=
 some (decide ((indexNums l c) ≥ 0), ())
def eqTLen (a : List Tp) (b : List Tp) : Prop := (a.length ≤ lenMax ∧ ∀ x1 : Tp, x1 ∈ a → (True ∧ (True ∧ True))) ∧ (b.length ≤ lenMax ∧ ∀ x1 : Tp, x1 ∈ b → (True ∧ (True ∧ True))) ∧ True
def eqTL1 (a : List Tp) (b : List Tp) (s1 : Int × Unit) (rec2 : (Int × Unit) → Option (Bool × Unit)) : Option (Bool × Unit) :=
 bif decide (s1.1 < (a.length : Int)) then
  bif decide (0 ≤ s1.1) && decide (s1.1 < a.length) then
   bif decide (0 ≤ s1.1) && decide (s1.1 < b.length) then
    bif !((((a.getD s1.1.toNat zTp).1) == ((b.getD s1.1.toNat zTp).1)) && ((((a.getD s1.1.toNat zTp).2.1) == ((b.getD s1.1.toNat zTp).2.1)) && true)) then
     some (false, ())
    else rec2 (IntKind.i64.wrap (s1.1 + 1), ())
   else none
  else none
 else some (true, ())
def eqTN (fuel : Nat) (a : List Tp) (b : List Tp) : Option (Bool × Unit) :=
 bif (a.length : Int) != (b.length : Int) then
  some (false, ())
 else loopF (eqTL1 a b) fuel ((0 : Int), ())
def iwithinN (n : Int) (m : Int) : Option (Bool × Unit) :=
 bif decide (n ≥ 0) then
  some (decide (n ≤ m), ())
 else some (false, ())
def itypN (t : Tp) : Option (Bool × Unit) :=
 bif (iwithin t.1 (5 : Int)) then
  bif t.2.1 == 0 then
   some (true, ())
  else bif t.1 == 3 then
   some ((iwithin t.2.1 (7 : Int)), ())
  else some (false, ())
 else some (false, ())
def ityp1N (t : Tp) : Option (Bool × Unit) :=
 some (!(ityp t), ())
def itypesN (l : List Tp) (m : Int) : Option (Bool × Unit) :=
 bif decide ((l.length : Int) ≤ m) then
  some (!(containsTypes l ()), ())
 else some (false, ())
def inum1N (n : Int) (m : Int) : Option (Bool × Unit) :=
 some (!(iwithin n m), ())
def inumsN (l : List Int) (c : Int) (m : Int) : Option (Bool × Unit) :=
 bif decide ((l.length : Int) ≤ c) then
  some (!(containsNums l (m, ())), ())
 else some (false, ())
def imethodL1 (x : Mt) (s1 : Int × Unit) (rec2 : (Int × Unit) → Option (Bool × Unit)) : Option (Bool × Unit) :=
 bif decide (s1.1 < (x.2.2.2.1.length : Int)) then
  bif decide (0 ≤ s1.1) && decide (s1.1 < x.2.2.2.1.length) then
   bif !(igood (x.2.2.2.1.getD s1.1.toNat zIns)) then
    some (false, ())
   else rec2 (IntKind.i64.wrap (s1.1 + 1), ())
  else none
 else bif (iwithin x.2.2.2.2.1 (8 : Int)) then
  bif (iwithin x.2.2.2.2.2.1 (4096 : Int)) then
   some ((inums x.2.2.2.2.2.2.1 (64 : Int) (4096 : Int)), ())
  else some (false, ())
 else some (false, ())
def imethodN (fuel : Nat) (x : Mt) : Option (Bool × Unit) :=
 bif !(itypes x.1 (4 : Int)) then
  some (false, ())
 else bif !(itypes x.2.1 (8 : Int)) then
  some (false, ())
 else bif !(ityp x.2.2.1) then
  some (false, ())
 else bif decide ((x.2.2.2.1.length : Int) > 64) then
  some (false, ())
 else loopF (imethodL1 x) fuel ((0 : Int), ())
def iclassN (x : Cl) : Option (Bool × Unit) :=
 bif decide (x.1 ≥ (-1 : Int)) then
  bif decide (x.1 < 8) then
   bif (itypes x.2.1 (8 : Int)) then
    some ((inums x.2.2.1 (4 : Int) (11 : Int)), ())
   else some (false, ())
  else some (false, ())
 else some (false, ())
def ifits1N (x : Cl) : Option (Bool × Unit) :=
 some (!(iclass x), ())
def ifits2N (x : Mt) : Option (Bool × Unit) :=
 some (!(imethod x), ())
def ifitsN (m : Im) : Option (Bool × Unit) :=
 bif decide ((m.1.length : Int) > 8) then
  some (false, ())
 else bif !(itypes m.2.1 (8 : Int)) then
  some (false, ())
 else bif decide ((m.2.2.1.length : Int) > 16) then
  some (false, ())
 else bif decide ((m.2.2.2.1.length : Int) > 12) then
  some (false, ())
 else bif (containsClass m.1 ()) then
  some (false, ())
 else bif (containsMethod m.2.2.2.1 ()) then
  some (false, ())
 else bif (inums m.2.2.2.2.1 (12 : Int) (11 : Int)) then
  bif (iwithin m.2.2.2.2.2.1 (4096 : Int)) then
   some ((iwithin m.2.2.2.2.2.2.1 (4096 : Int)), ())
  else some (false, ())
 else some (false, ())
def kgoodN (t : Tp) (n : Int) : Option (Bool × Unit) :=
 (bif t.1 == 1 then
  some (.inl (true, ()))
 else some (.inl (t.1 == 2, ())) : Option ((Bool × Unit) ⊕ (Bool × Unit))).bind fun q => match q with
 | .inr r2 => some r2
 | .inl s1 =>
  bif s1.1 then
   some (t.2.1 == 0, ())
  else bif t.1 == 3 then
   bif decide (t.2.1 ≥ 0) then
    some (decide (t.2.1 < n), ())
   else some (false, ())
  else some (false, ())
def kisrefN (t : Tp) : Option (Bool × Unit) :=
 bif t.1 == 2 then
  some (true, ())
 else bif t.1 == 3 then
  some (true, ())
 else some (t.1 == 4, ())
def kupN (l : List Cl) (c : Int) : Option (Int × Unit) :=
 bif decide (c < 0) then
  some ((-1 : Int), ())
 else bif decide (c ≥ (l.length : Int)) then
  some ((-1 : Int), ())
 else bif decide (0 ≤ c) && decide (c < l.length) then
  bif decide ((l.getD c.toNat zCl).1 ≥ c) then
   some ((-1 : Int), ())
  else bif decide (0 ≤ c) && decide (c < l.length) then
   some ((l.getD c.toNat zCl).1, ())
  else none
 else none
def kbelowL1 (l : List Cl) (b : Int) (s1 : Int × Unit) (rec2 : (Int × Unit) → Option (Bool × Unit)) : Option (Bool × Unit) :=
 bif decide (s1.1 ≥ 0) then
  bif s1.1 == b then
   some (true, ())
  else rec2 ((kup l s1.1), ())
 else some (false, ())
def kbelowN (fuel : Nat) (l : List Cl) (a : Int) (b : Int) : Option (Bool × Unit) :=
 bif decide (b < 0) then
  some (false, ())
 else bif decide (b ≥ (l.length : Int)) then
  some (false, ())
 else bif decide (a ≥ (l.length : Int)) then
  some (false, ())
 else loopF (kbelowL1 l b) fuel (a, ())
def ksubN (l : List Cl) (a : Tp) (b : Tp) : Option (Bool × Unit) :=
 bif a.1 == 4 then
  some ((kisref b), ())
 else bif a.1 == 3 then
  bif b.1 == 3 then
   some ((kbelow l a.2.1 b.2.1), ())
  else bif (a.1 == b.1) && ((a.2.1 == b.2.1) && true) then
   bif a.1 == 1 then
    some (true, ())
   else some (a.1 == 2, ())
  else some (false, ())
 else bif (a.1 == b.1) && ((a.2.1 == b.2.1) && true) then
  bif a.1 == 1 then
   some (true, ())
  else some (a.1 == 2, ())
 else some (false, ())
def raboveL1 (l : List Cl) (s1 : Int × List Int × Unit) (rec2 : (Int × List Int × Unit) → Option (List Int × Unit)) : Option (List Int × Unit) :=
 bif decide (s1.1 ≥ 0) then
  bif decide (s1.1 < (l.length : Int)) then
   bif decide (s1.2.1.length + [s1.1].length < rowMax) then
    bif decide (0 ≤ s1.1) && decide (s1.1 < l.length) then
     bif decide ((l.getD s1.1.toNat zCl).1 ≥ s1.1) then
      rec2 ((-1 : Int), s1.2.1 ++ [s1.1], ())
     else rec2 ((l.getD s1.1.toNat zCl).1, s1.2.1 ++ [s1.1], ())
    else none
   else none
  else some (s1.2.1, ())
 else some (s1.2.1, ())
def raboveN (fuel : Nat) (l : List Cl) (c : Int) : Option (List Int × Unit) :=
 loopF (raboveL1 l) fuel (c, (([] : List Int), ()))
def risrefN (t : Tp) : Option (Bool × Unit) :=
 bif t.1 == 2 then
  some (true, ())
 else bif t.1 == 3 then
  some (true, ())
 else some (t.1 == 4, ())
def rgoodN (t : Tp) (n : Int) : Option (Bool × Unit) :=
 bif t.1 == 1 then
  bif t.2.1 == 0 then
   some (true, ())
  else bif t.1 == 3 then
   bif decide (t.2.1 ≥ 0) then
    some (decide (t.2.1 < n), ())
   else some (false, ())
  else some (false, ())
 else bif t.1 == 2 then
  bif t.2.1 == 0 then
   some (true, ())
  else bif t.1 == 3 then
   bif decide (t.2.1 ≥ 0) then
    some (decide (t.2.1 < n), ())
   else some (false, ())
  else some (false, ())
 else bif t.1 == 3 then
  bif decide (t.2.1 ≥ 0) then
   some (decide (t.2.1 < n), ())
  else some (false, ())
 else some (false, ())
def rsubN (l : List Cl) (a : Tp) (b : Tp) : Option (Bool × Unit) :=
 bif a.1 == 4 then
  some ((risref b), ())
 else bif a.1 == 3 then
  bif b.1 == 3 then
   (rabove l a.2.1).bind fun r1 =>
   (rin r1.1 b.2.1).bind fun r2 =>
   some (r2.1, ())
  else some (false, ())
 else bif a.1 == 1 then
  some ((a.1 == b.1) && ((a.2.1 == b.2.1) && true), ())
 else bif a.1 == 2 then
  some ((a.1 == b.1) && ((a.2.1 == b.2.1) && true), ())
 else some (false, ())
def rtypesLen (a : List Tp) (b : List Tp) : Prop := (a.length ≤ lenMax ∧ ∀ x1 : Tp, x1 ∈ a → (True ∧ (True ∧ True))) ∧ (b.length ≤ lenMax ∧ ∀ x1 : Tp, x1 ∈ b → (True ∧ (True ∧ True))) ∧ True
def rtypesL1 (a : List Tp) (b : List Tp) (s1 : Int × Unit) (rec2 : (Int × Unit) → Option (Bool × Unit)) : Option (Bool × Unit) :=
 bif decide (s1.1 < (a.length : Int)) then
  bif decide (0 ≤ s1.1) && decide (s1.1 < a.length) then
   bif decide (0 ≤ s1.1) && decide (s1.1 < b.length) then
    bif !((((a.getD s1.1.toNat zTp).1) == ((b.getD s1.1.toNat zTp).1)) && ((((a.getD s1.1.toNat zTp).2.1) == ((b.getD s1.1.toNat zTp).2.1)) && true)) then
     some (false, ())
    else rec2 (IntKind.i64.wrap (s1.1 + 1), ())
   else none
  else none
 else some (true, ())
def rtypesN (fuel : Nat) (a : List Tp) (b : List Tp) : Option (Bool × Unit) :=
 bif (a.length : Int) != (b.length : Int) then
  some (false, ())
 else loopF (rtypesL1 a b) fuel ((0 : Int), ())
def r5inN (n : Int) (a : Int) (b : Int) : Option (Bool × Unit) :=
 bif decide (n ≥ a) then
  some (decide (n ≤ b), ())
 else some (false, ())
def r5listLen (l : List Int) (_c : Int) (_m : Int) : Prop := (l.length ≤ lenMax ∧ ∀ x1 : Int, x1 ∈ l → True) ∧ True ∧ True ∧ True
def r5listL1 (l : List Int) (m : Int) (s1 : Int × Unit) (rec2 : (Int × Unit) → Option (Bool × Unit)) : Option (Bool × Unit) :=
 bif decide (s1.1 < (l.length : Int)) then
  bif decide (0 ≤ s1.1) && decide (s1.1 < l.length) then
   bif !(r5in (l.getD s1.1.toNat 0) (0 : Int) m) then
    some (false, ())
   else rec2 (IntKind.i64.wrap (s1.1 + 1), ())
  else none
 else some (true, ())
def r5listN (fuel : Nat) (l : List Int) (c : Int) (m : Int) : Option (Bool × Unit) :=
 bif decide ((l.length : Int) > c) then
  some (false, ())
 else loopF (r5listL1 l m) fuel ((0 : Int), ())
def r5typN (t : Tp) : Option (Bool × Unit) :=
 bif (r5in t.1 (0 : Int) (5 : Int)) then
  bif t.2.1 == 0 then
   some (true, ())
  else bif t.1 == 3 then
   some ((r5in t.2.1 (0 : Int) (7 : Int)), ())
  else some (false, ())
 else some (false, ())
def r5typesLen (l : List Tp) (_c : Int) : Prop := (l.length ≤ lenMax ∧ ∀ x1 : Tp, x1 ∈ l → (True ∧ (True ∧ True))) ∧ True ∧ True
def r5typesL1 (l : List Tp) (s1 : Int × Unit) (rec2 : (Int × Unit) → Option (Bool × Unit)) : Option (Bool × Unit) :=
 bif decide (s1.1 < (l.length : Int)) then
  bif decide (0 ≤ s1.1) && decide (s1.1 < l.length) then
   bif !(r5typ (l.getD s1.1.toNat zTp)) then
    some (false, ())
   else rec2 (IntKind.i64.wrap (s1.1 + 1), ())
  else none
 else some (true, ())
def r5typesN (fuel : Nat) (l : List Tp) (c : Int) : Option (Bool × Unit) :=
 bif decide ((l.length : Int) > c) then
  some (false, ())
 else loopF (r5typesL1 l) fuel ((0 : Int), ())
def r5fitsLen (m : Im) : Prop := ((m.1.length ≤ lenMax ∧ ∀ x1 : Cl, x1 ∈ m.1 → (True ∧ ((x1.2.1.length ≤ lenMax ∧ ∀ x2 : Tp, x2 ∈ x1.2.1 → (True ∧ (True ∧ True))) ∧ ((x1.2.2.1.length ≤ lenMax ∧ ∀ x2 : Int, x2 ∈ x1.2.2.1 → True) ∧ True)))) ∧ ((m.2.1.length ≤ lenMax ∧ ∀ x1 : Tp, x1 ∈ m.2.1 → (True ∧ (True ∧ True))) ∧ ((m.2.2.1.length ≤ lenMax ∧ ∀ x1 : Int, x1 ∈ m.2.2.1 → True) ∧ ((m.2.2.2.1.length ≤ lenMax ∧ ∀ x1 : Mt, x1 ∈ m.2.2.2.1 → ((x1.1.length ≤ lenMax ∧ ∀ x2 : Tp, x2 ∈ x1.1 → (True ∧ (True ∧ True))) ∧ ((x1.2.1.length ≤ lenMax ∧ ∀ x2 : Tp, x2 ∈ x1.2.1 → (True ∧ (True ∧ True))) ∧ ((True ∧ (True ∧ True)) ∧ ((x1.2.2.2.1.length ≤ lenMax ∧ ∀ x2 : Ins, x2 ∈ x1.2.2.2.1 → (True ∧ (True ∧ (True ∧ True)))) ∧ (True ∧ (True ∧ ((x1.2.2.2.2.2.2.1.length ≤ lenMax ∧ ∀ x2 : Int, x2 ∈ x1.2.2.2.2.2.2.1 → True) ∧ True)))))))) ∧ ((m.2.2.2.2.1.length ≤ lenMax ∧ ∀ x1 : Int, x1 ∈ m.2.2.2.2.1 → True) ∧ (True ∧ (True ∧ True))))))) ∧ True
def r5fitsL1 (m : Im) (s3 : Int × Unit) (rec4 : (Int × Unit) → Option (Bool × Unit)) (s5 : Int × Unit) (rec6 : (Int × Unit) → Option (Bool × Unit)) : Option (Bool × Unit) :=
 bif decide (s5.1 < ((m.2.2.2.1.getD s3.1.toNat zMt).2.2.2.1.length : Int)) then
  bif decide (0 ≤ s5.1) && decide (s5.1 < (m.2.2.2.1.getD s3.1.toNat zMt).2.2.2.1.length) then
   bif !(rinstr ((m.2.2.2.1.getD s3.1.toNat zMt).2.2.2.1.getD s5.1.toNat zIns)) then
    some (false, ())
   else rec6 (IntKind.i64.wrap (s5.1 + 1), ())
  else none
 else rec4 (IntKind.i64.wrap (s3.1 + 1), ())
def r5fitsL2 (m : Im) (fuel : Nat) (s3 : Int × Unit) (rec4 : (Int × Unit) → Option (Bool × Unit)) : Option (Bool × Unit) :=
 bif decide (s3.1 < (m.2.2.2.1.length : Int)) then
  bif decide (0 ≤ s3.1) && decide (s3.1 < m.2.2.2.1.length) then
   bif !(r5types (m.2.2.2.1.getD s3.1.toNat zMt).1 (4 : Int)) then
    some (false, ())
   else bif !(r5types (m.2.2.2.1.getD s3.1.toNat zMt).2.1 (8 : Int)) then
    some (false, ())
   else bif !(r5typ (m.2.2.2.1.getD s3.1.toNat zMt).2.2.1) then
    some (false, ())
   else bif decide (((m.2.2.2.1.getD s3.1.toNat zMt).2.2.2.1.length : Int) > 64) then
    some (false, ())
   else bif !(r5in (m.2.2.2.1.getD s3.1.toNat zMt).2.2.2.2.1 (0 : Int) (8 : Int)) then
    some (false, ())
   else bif !(r5in (m.2.2.2.1.getD s3.1.toNat zMt).2.2.2.2.2.1 (0 : Int) (4096 : Int)) then
    some (false, ())
   else bif !(r5list (m.2.2.2.1.getD s3.1.toNat zMt).2.2.2.2.2.2.1 (64 : Int) (4096 : Int)) then
    some (false, ())
   else loopF (r5fitsL1 m s3 rec4) fuel ((0 : Int), ())
  else none
 else some (true, ())
def r5fitsL3 (m : Im) (fuel : Nat) (s1 : Int × Unit) (rec2 : (Int × Unit) → Option (Bool × Unit)) : Option (Bool × Unit) :=
 bif decide (s1.1 < (m.1.length : Int)) then
  bif decide (0 ≤ s1.1) && decide (s1.1 < m.1.length) then
   bif !(r5in (m.1.getD s1.1.toNat zCl).1 (-1 : Int) (7 : Int)) then
    some (false, ())
   else bif !(r5types (m.1.getD s1.1.toNat zCl).2.1 (8 : Int)) then
    some (false, ())
   else bif !(r5list (m.1.getD s1.1.toNat zCl).2.2.1 (4 : Int) (11 : Int)) then
    some (false, ())
   else rec2 (IntKind.i64.wrap (s1.1 + 1), ())
  else none
 else loopF (r5fitsL2 m fuel) fuel ((0 : Int), ())
def r5fitsN (fuel : Nat) (m : Im) : Option (Bool × Unit) :=
 bif decide ((m.1.length : Int) > 8) then
  some (false, ())
 else bif decide ((m.2.2.1.length : Int) > 16) then
  some (false, ())
 else bif decide ((m.2.2.2.1.length : Int) > 12) then
  some (false, ())
 else bif !(r5types m.2.1 (8 : Int)) then
  some (false, ())
 else bif !(r5list m.2.2.2.2.1 (12 : Int) (11 : Int)) then
  some (false, ())
 else bif !(r5in m.2.2.2.2.2.1 (0 : Int) (4096 : Int)) then
  some (false, ())
 else bif !(r5in m.2.2.2.2.2.2.1 (0 : Int) (4096 : Int)) then
  some (false, ())
 else loopF (r5fitsL3 m fuel) fuel ((0 : Int), ())
def r5fieldsL1 (m : Im) (r1 : List Int × Unit) (s2 : List Tp × Int × Unit) (rec3 : (List Tp × Int × Unit) → Option (List Tp × Unit)) : Option (List Tp × Unit) :=
 bif decide (s2.2.1 ≥ 0) then
  bif decide (0 ≤ s2.2.1) && decide (s2.2.1 < r1.1.length) then
   bif decide (0 ≤ r1.1.getD s2.2.1.toNat 0) && decide (r1.1.getD s2.2.1.toNat 0 < m.1.length) then
    bif decide (s2.1.length + (m.1.getD (r1.1.getD s2.2.1.toNat 0).toNat zCl).2.1.length < rowMax) then
     rec3 (s2.1 ++ ((m.1.getD (r1.1.getD s2.2.1.toNat 0).toNat zCl).2.1), IntKind.i64.wrap (s2.2.1 - 1), ())
    else none
   else none
  else none
 else some (s2.1, ())
def r5fieldsN (fuel : Nat) (m : Im) (c : Int) : Option (List Tp × Unit) :=
 (rabove m.1 c).bind fun r1 =>
 loopF (r5fieldsL1 m r1) fuel (([] : List Tp), (IntKind.i64.wrap ((r1.1.length : Int) - 1), ()))
def r5goodLen (m : Im) (l : List Tp) : Prop := ((m.1.length ≤ lenMax ∧ ∀ x1 : Cl, x1 ∈ m.1 → (True ∧ ((x1.2.1.length ≤ lenMax ∧ ∀ x2 : Tp, x2 ∈ x1.2.1 → (True ∧ (True ∧ True))) ∧ ((x1.2.2.1.length ≤ lenMax ∧ ∀ x2 : Int, x2 ∈ x1.2.2.1 → True) ∧ True)))) ∧ ((m.2.1.length ≤ lenMax ∧ ∀ x1 : Tp, x1 ∈ m.2.1 → (True ∧ (True ∧ True))) ∧ ((m.2.2.1.length ≤ lenMax ∧ ∀ x1 : Int, x1 ∈ m.2.2.1 → True) ∧ ((m.2.2.2.1.length ≤ lenMax ∧ ∀ x1 : Mt, x1 ∈ m.2.2.2.1 → ((x1.1.length ≤ lenMax ∧ ∀ x2 : Tp, x2 ∈ x1.1 → (True ∧ (True ∧ True))) ∧ ((x1.2.1.length ≤ lenMax ∧ ∀ x2 : Tp, x2 ∈ x1.2.1 → (True ∧ (True ∧ True))) ∧ ((True ∧ (True ∧ True)) ∧ ((x1.2.2.2.1.length ≤ lenMax ∧ ∀ x2 : Ins, x2 ∈ x1.2.2.2.1 → (True ∧ (True ∧ (True ∧ True)))) ∧ (True ∧ (True ∧ ((x1.2.2.2.2.2.2.1.length ≤ lenMax ∧ ∀ x2 : Int, x2 ∈ x1.2.2.2.2.2.2.1 → True) ∧ True)))))))) ∧ ((m.2.2.2.2.1.length ≤ lenMax ∧ ∀ x1 : Int, x1 ∈ m.2.2.2.2.1 → True) ∧ (True ∧ (True ∧ True))))))) ∧ (l.length ≤ lenMax ∧ ∀ x1 : Tp, x1 ∈ l → (True ∧ (True ∧ True))) ∧ True
def r5goodL1 (m : Im) (l : List Tp) (s1 : Int × Unit) (rec2 : (Int × Unit) → Option (Bool × Unit)) : Option (Bool × Unit) :=
 bif decide (s1.1 < (l.length : Int)) then
  bif decide (0 ≤ s1.1) && decide (s1.1 < l.length) then
   bif !(rgood (l.getD s1.1.toNat zTp) (m.1.length : Int)) then
    some (false, ())
   else rec2 (IntKind.i64.wrap (s1.1 + 1), ())
  else none
 else some (true, ())
def r5goodN (fuel : Nat) (m : Im) (l : List Tp) : Option (Bool × Unit) :=
 loopF (r5goodL1 m l) fuel ((0 : Int), ())
def r5classL1 (m : Im) (c : Int) (s2 : List Int × Unit) (s4 : Int × Unit) (rec5 : (Int × Unit) → Option (Bool × Unit)) : Option (Bool × Unit) :=
 bif decide (s4.1 < ((m.1.getD c.toNat zCl).2.2.1.length : Int)) then
  (bif decide (0 ≤ s4.1) && decide (s4.1 < (m.1.getD c.toNat zCl).2.2.1.length) then
   bif decide ((m.1.getD c.toNat zCl).2.2.1.getD s4.1.toNat 0 ≥ (m.2.2.2.1.length : Int)) then
    some (.inr (false, ()))
   else bif decide (0 ≤ s4.1) && decide (s4.1 < (m.1.getD c.toNat zCl).2.2.1.length) then
    bif decide (0 ≤ (m.1.getD c.toNat zCl).2.2.1.getD s4.1.toNat 0) && decide ((m.1.getD c.toNat zCl).2.2.1.getD s4.1.toNat 0 < m.2.2.2.1.length) then
     bif ((m.2.2.2.1.getD ((m.1.getD c.toNat zCl).2.2.1.getD s4.1.toNat 0).toNat zMt).1.length : Int) == 0 then
      some (.inr (false, ()))
     else bif decide ((0 : Int) < (m.2.2.2.1.getD ((m.1.getD c.toNat zCl).2.2.1.getD s4.1.toNat 0).toNat zMt).1.length) then
      (rsub m.1 ((3 : Int), c, ()) ((m.2.2.2.1.getD ((m.1.getD c.toNat zCl).2.2.1.getD s4.1.toNat 0).toNat zMt).1.getD 0 zTp)).bind fun r8 =>
      bif !r8.1 then
       some (.inr (false, ()))
      else bif decide (s4.1 < (s2.1.length : Int)) then
       bif decide (0 ≤ s4.1) && decide (s4.1 < s2.1.length) then
        bif decide (0 ≤ s2.1.getD s4.1.toNat 0) && decide (s2.1.getD s4.1.toNat 0 < m.2.2.2.1.length) then
         bif decide ((1 : Int) ≤ ((m.2.2.2.1.getD ((m.1.getD c.toNat zCl).2.2.1.getD s4.1.toNat 0).toNat zMt).1.length : Int)) && decide (((m.2.2.2.1.getD ((m.1.getD c.toNat zCl).2.2.1.getD s4.1.toNat 0).toNat zMt).1.length : Int) ≤ ((m.2.2.2.1.getD ((m.1.getD c.toNat zCl).2.2.1.getD s4.1.toNat 0).toNat zMt).1.length : Int)) then
          bif decide ((1 : Int) ≤ ((m.2.2.2.1.getD (s2.1.getD s4.1.toNat 0).toNat zMt).1.length : Int)) && decide (((m.2.2.2.1.getD (s2.1.getD s4.1.toNat 0).toNat zMt).1.length : Int) ≤ ((m.2.2.2.1.getD (s2.1.getD s4.1.toNat 0).toNat zMt).1.length : Int)) then
           bif !(rtypes (((m.2.2.2.1.getD ((m.1.getD c.toNat zCl).2.2.1.getD s4.1.toNat 0).toNat zMt).1.take ((m.2.2.2.1.getD ((m.1.getD c.toNat zCl).2.2.1.getD s4.1.toNat 0).toNat zMt).1.length : Int).toNat).drop 1) (((m.2.2.2.1.getD (s2.1.getD s4.1.toNat 0).toNat zMt).1.take ((m.2.2.2.1.getD (s2.1.getD s4.1.toNat 0).toNat zMt).1.length : Int).toNat).drop 1)) then
            some (.inr (false, ()))
           else bif !((((m.2.2.2.1.getD ((m.1.getD c.toNat zCl).2.2.1.getD s4.1.toNat 0).toNat zMt).2.2.1.1) == ((m.2.2.2.1.getD (s2.1.getD s4.1.toNat 0).toNat zMt).2.2.1.1)) && ((((m.2.2.2.1.getD ((m.1.getD c.toNat zCl).2.2.1.getD s4.1.toNat 0).toNat zMt).2.2.1.2.1) == ((m.2.2.2.1.getD (s2.1.getD s4.1.toNat 0).toNat zMt).2.2.1.2.1)) && true)) then
            some (.inr (false, ()))
           else some (.inl ())
          else none
         else none
        else none
       else none
      else some (.inl ())
     else none
    else none
   else none
  else none : Option (Unit ⊕ (Bool × Unit))).bind fun q => match q with
  | .inr r7 => some r7
  | .inl _ =>
   rec5 (IntKind.i64.wrap (s4.1 + 1), ())
 else some (true, ())
def r5classN (fuel : Nat) (m : Im) (c : Int) : Option (Bool × Unit) :=
 bif decide (0 ≤ c) && decide (c < m.1.length) then
  bif decide ((m.1.getD c.toNat zCl).1 ≥ c) then
   some (false, ())
  else bif !(r5good m (m.1.getD c.toNat zCl).2.1) then
   some (false, ())
  else 
   (r5fields m c).bind fun r1 =>
   bif decide ((r1.1.length : Int) > 8) then
    some (false, ())
   else 
    (bif decide ((m.1.getD c.toNat zCl).1 ≥ 0) then
     bif decide (0 ≤ (m.1.getD c.toNat zCl).1) && decide ((m.1.getD c.toNat zCl).1 < m.1.length) then
      some (.inl ((m.1.getD (m.1.getD c.toNat zCl).1.toNat zCl).2.2.1, ()))
     else none
    else some (.inl (([] : List Int), ())) : Option ((List Int × Unit) ⊕ (Bool × Unit))).bind fun q => match q with
    | .inr r3 => some r3
    | .inl s2 =>
     bif decide (((m.1.getD c.toNat zCl).2.2.1.length : Int) < (s2.1.length : Int)) then
      some (false, ())
     else loopF (r5classL1 m c s2) fuel ((0 : Int), ())
 else none
def r5namedN (m : Im) (x : Mt) (i : Ins) : Option (Bool × Unit) :=
 bif i.1 == 1 then
  some (decide (i.2.1 < (m.2.2.1.length : Int)), ())
 else 
  (bif i.1 == 3 then
   some (.inl (true, ()))
  else some (.inl (i.1 == 4, ())) : Option ((Bool × Unit) ⊕ (Bool × Unit))).bind fun q => match q with
  | .inr r2 => some r2
  | .inl s1 =>
   bif s1.1 then
    some (decide (i.2.1 < IntKind.i64.wrap ((x.1.length : Int) + (x.2.1.length : Int))), ())
   else 
    (bif i.1 == 18 then
     some (.inl (true, ()))
    else some (.inl (i.1 == 19, ())) : Option ((Bool × Unit) ⊕ (Bool × Unit))).bind fun q => match q with
    | .inr r4 => some r4
    | .inl s3 =>
     bif s3.1 then
      some (decide (i.2.1 < (x.2.2.2.1.length : Int)), ())
     else 
      (bif i.1 == 22 then
       some (.inl (true, ()))
      else some (.inl (i.1 == 34, ())) : Option ((Bool × Unit) ⊕ (Bool × Unit))).bind fun q => match q with
      | .inr r6 => some r6
      | .inl s5 =>
       bif s5.1 then
        some (decide (i.2.1 < (m.1.length : Int)), ())
       else 
        (bif i.1 == 27 then
         some (.inl (true, ()))
        else some (.inl (i.1 == 28, ())) : Option ((Bool × Unit) ⊕ (Bool × Unit))).bind fun q => match q with
        | .inr r8 => some r8
        | .inl s7 =>
         bif s7.1 then
          bif decide (i.2.1 < (m.1.length : Int)) then
           (r5fields m i.2.1).bind fun r9 =>
           some (decide (i.2.2.1 < (r9.1.length : Int)), ())
          else some (false, ())
         else 
          (bif i.1 == 29 then
           some (.inl (true, ()))
          else some (.inl (i.1 == 30, ())) : Option ((Bool × Unit) ⊕ (Bool × Unit))).bind fun q => match q with
          | .inr r11 => some r11
          | .inl s10 =>
           bif s10.1 then
            some (decide (i.2.1 < (m.2.1.length : Int)), ())
           else bif i.1 == 31 then
            some (decide (i.2.1 < (m.2.2.2.1.length : Int)), ())
           else bif i.1 == 32 then
            bif decide (i.2.1 < (m.1.length : Int)) then
             bif decide (0 ≤ i.2.1) && decide (i.2.1 < m.1.length) then
              some (decide (i.2.2.1 < ((m.1.getD i.2.1.toNat zCl).2.2.1.length : Int)), ())
             else none
            else some (false, ())
           else some (true, ())
def r5methodL1 (m : Im) (x : Mt) (s3 : Int × Unit) (rec4 : (Int × Unit) → Option (Bool × Unit)) : Option (Bool × Unit) :=
 bif decide (s3.1 < (x.2.2.2.1.length : Int)) then
  bif decide (0 ≤ s3.1) && decide (s3.1 < x.2.2.2.1.length) then
   (r5named m x (x.2.2.2.1.getD s3.1.toNat zIns)).bind fun r5 =>
   bif !r5.1 then
    some (false, ())
   else rec4 (IntKind.i64.wrap (s3.1 + 1), ())
  else none
 else some (true, ())
def r5methodN (fuel : Nat) (m : Im) (x : Mt) : Option (Bool × Unit) :=
 (bif !(r5good m x.1) then
  some (.inr (false, ()))
 else bif !(r5good m x.2.1) then
  some (.inr (false, ()))
 else bif !((x.2.2.1.1 == 5) && ((x.2.2.1.2.1 == 0) && true)) then
  bif !(rgood x.2.2.1 (m.1.length : Int)) then
   some (.inr (false, ()))
  else bif (x.2.2.2.1.length : Int) == 0 then
   some (.inr (false, ()))
  else bif (x.2.2.2.2.2.2.1.length : Int) != (x.2.2.2.1.length : Int) then
   some (.inr (false, ()))
  else bif decide (IntKind.i64.wrap ((x.1.length : Int) + (x.2.1.length : Int)) > 8) then
   some (.inr (false, ()))
  else some (.inl ())
 else bif (x.2.2.2.1.length : Int) == 0 then
  some (.inr (false, ()))
 else bif (x.2.2.2.2.2.2.1.length : Int) != (x.2.2.2.1.length : Int) then
  some (.inr (false, ()))
 else bif decide (IntKind.i64.wrap ((x.1.length : Int) + (x.2.1.length : Int)) > 8) then
  some (.inr (false, ()))
 else some (.inl ()) : Option (Unit ⊕ (Bool × Unit))).bind fun q => match q with
 | .inr r2 => some r2
 | .inl _ =>
  loopF (r5methodL1 m x) fuel ((0 : Int), ())
def r5saneLen (m : Im) : Prop := ((m.1.length ≤ lenMax ∧ ∀ x1 : Cl, x1 ∈ m.1 → (True ∧ ((x1.2.1.length ≤ lenMax ∧ ∀ x2 : Tp, x2 ∈ x1.2.1 → (True ∧ (True ∧ True))) ∧ ((x1.2.2.1.length ≤ lenMax ∧ ∀ x2 : Int, x2 ∈ x1.2.2.1 → True) ∧ True)))) ∧ ((m.2.1.length ≤ lenMax ∧ ∀ x1 : Tp, x1 ∈ m.2.1 → (True ∧ (True ∧ True))) ∧ ((m.2.2.1.length ≤ lenMax ∧ ∀ x1 : Int, x1 ∈ m.2.2.1 → True) ∧ ((m.2.2.2.1.length ≤ lenMax ∧ ∀ x1 : Mt, x1 ∈ m.2.2.2.1 → ((x1.1.length ≤ lenMax ∧ ∀ x2 : Tp, x2 ∈ x1.1 → (True ∧ (True ∧ True))) ∧ ((x1.2.1.length ≤ lenMax ∧ ∀ x2 : Tp, x2 ∈ x1.2.1 → (True ∧ (True ∧ True))) ∧ ((True ∧ (True ∧ True)) ∧ ((x1.2.2.2.1.length ≤ lenMax ∧ ∀ x2 : Ins, x2 ∈ x1.2.2.2.1 → (True ∧ (True ∧ (True ∧ True)))) ∧ (True ∧ (True ∧ ((x1.2.2.2.2.2.2.1.length ≤ lenMax ∧ ∀ x2 : Int, x2 ∈ x1.2.2.2.2.2.2.1 → True) ∧ True)))))))) ∧ ((m.2.2.2.2.1.length ≤ lenMax ∧ ∀ x1 : Int, x1 ∈ m.2.2.2.2.1 → True) ∧ (True ∧ (True ∧ True))))))) ∧ True
def r5saneL1 (m : Im) (s3 : Bool × Int × Unit) (rec4 : (Bool × Int × Unit) → Option ((Bool × Unit) ⊕ (Int × Unit))) : Option ((Bool × Unit) ⊕ (Int × Unit)) :=
 bif decide (s3.2.1 < (m.1.length : Int)) then
  bif s3.1 then
   (r5class m s3.2.1).bind fun r5 =>
   rec4 (r5.1, IntKind.i64.wrap (s3.2.1 + 1), ())
  else some (.inl (s3.1, ()))
 else some (.inl (s3.1, ()))
def r5saneL2 (m : Im) (s8 : Bool × Int × Unit) (rec9 : (Bool × Int × Unit) → Option ((Bool × Unit) ⊕ (Int × Unit))) : Option ((Bool × Unit) ⊕ (Int × Unit)) :=
 bif decide (s8.2.1 < (m.2.2.2.1.length : Int)) then
  bif s8.1 then
   bif decide (0 ≤ s8.2.1) && decide (s8.2.1 < m.2.2.2.1.length) then
    (r5method m (m.2.2.2.1.getD s8.2.1.toNat zMt)).bind fun r10 =>
    rec9 (r10.1, IntKind.i64.wrap (s8.2.1 + 1), ())
   else none
  else some (.inl (s8.1, ()))
 else some (.inl (s8.1, ()))
def r5saneL3 (m : Im) (s11 : Bool × Int × Unit) (rec12 : (Bool × Int × Unit) → Option (Int × Unit)) (s15 : Bool × Int × Unit) (rec16 : (Bool × Int × Unit) → Option (Int × Unit)) : Option (Int × Unit) :=
 bif decide (0 ≤ m.2.2.2.2.1.getD s11.2.1.toNat 0) && decide (m.2.2.2.2.1.getD s11.2.1.toNat 0 < m.2.2.2.1.length) then
  bif decide (s15.2.1 < ((m.2.2.2.1.getD (m.2.2.2.2.1.getD s11.2.1.toNat 0).toNat zMt).1.length : Int)) then
   bif s15.1 then
    bif decide (0 ≤ m.2.2.2.2.1.getD s11.2.1.toNat 0) && decide (m.2.2.2.2.1.getD s11.2.1.toNat 0 < m.2.2.2.1.length) then
     bif decide (0 ≤ s15.2.1) && decide (s15.2.1 < (m.2.2.2.1.getD (m.2.2.2.2.1.getD s11.2.1.toNat 0).toNat zMt).1.length) then
      rec16 ((((m.2.2.2.1.getD (m.2.2.2.2.1.getD s11.2.1.toNat 0).toNat zMt).1.getD s15.2.1.toNat zTp).1) == 1, IntKind.i64.wrap (s15.2.1 + 1), ())
     else none
    else none
   else rec12 (s15.1, IntKind.i64.wrap (s11.2.1 + 1), ())
  else rec12 (s15.1, IntKind.i64.wrap (s11.2.1 + 1), ())
 else none
def r5saneL4 (m : Im) (fuel : Nat) (s11 : Bool × Int × Unit) (rec12 : (Bool × Int × Unit) → Option (Int × Unit)) : Option (Int × Unit) :=
 bif decide (s11.2.1 < (m.2.2.2.2.1.length : Int)) then
  bif s11.1 then
   bif decide (0 ≤ s11.2.1) && decide (s11.2.1 < m.2.2.2.2.1.length) then
    bif decide (m.2.2.2.2.1.getD s11.2.1.toNat 0 ≥ (m.2.2.2.1.length : Int)) then
     some ((3 : Int), ())
    else 
     (bif decide (0 ≤ m.2.2.2.2.1.getD s11.2.1.toNat 0) && decide (m.2.2.2.2.1.getD s11.2.1.toNat 0 < m.2.2.2.1.length) then
      bif ((m.2.2.2.1.getD (m.2.2.2.2.1.getD s11.2.1.toNat 0).toNat zMt).2.2.1.1) == 1 then
       some (.inl (true, ()))
      else bif decide (0 ≤ m.2.2.2.2.1.getD s11.2.1.toNat 0) && decide (m.2.2.2.2.1.getD s11.2.1.toNat 0 < m.2.2.2.1.length) then
       some (.inl (((m.2.2.2.1.getD (m.2.2.2.2.1.getD s11.2.1.toNat 0).toNat zMt).2.2.1.1) == 5, ()))
      else none
     else none : Option ((Bool × Unit) ⊕ (Int × Unit))).bind fun q => match q with
     | .inr r14 => some r14
     | .inl s13 =>
      loopF (r5saneL3 m s11 rec12) fuel (s13.1, ((0 : Int), ()))
   else none
  else bif !s11.1 then
   some ((3 : Int), ())
  else some ((0 : Int), ())
 else bif !s11.1 then
  some ((3 : Int), ())
 else some ((0 : Int), ())
def r5saneN (fuel : Nat) (m : Im) : Option (Int × Unit) :=
 bif !(r5fits m) then
  some ((2 : Int), ())
 else 
  (loopF (r5saneL1 m) fuel ((r5good m m.2.1), ((0 : Int), ())) : Option ((Bool × Unit) ⊕ (Int × Unit))).bind fun q => match q with
  | .inr r2 => some r2
  | .inl s1 =>
   (loopF (r5saneL2 m) fuel (s1.1, ((0 : Int), ())) : Option ((Bool × Unit) ⊕ (Int × Unit))).bind fun q => match q with
   | .inr r7 => some r7
   | .inl s6 =>
    loopF (r5saneL4 m fuel) fuel (s6.1, ((0 : Int), ()))
def sinN (n : Int) (c : Int) : Option (Bool × Unit) :=
 bif decide (n ≥ 0) then
  some (decide (n < c), ())
 else some (false, ())
def sallLen (m : Im) (l : List (List Tp)) : Prop := ((m.1.length ≤ lenMax ∧ ∀ x1 : Cl, x1 ∈ m.1 → (True ∧ ((x1.2.1.length ≤ lenMax ∧ ∀ x2 : Tp, x2 ∈ x1.2.1 → (True ∧ (True ∧ True))) ∧ ((x1.2.2.1.length ≤ lenMax ∧ ∀ x2 : Int, x2 ∈ x1.2.2.1 → True) ∧ True)))) ∧ ((m.2.1.length ≤ lenMax ∧ ∀ x1 : Tp, x1 ∈ m.2.1 → (True ∧ (True ∧ True))) ∧ ((m.2.2.1.length ≤ lenMax ∧ ∀ x1 : Int, x1 ∈ m.2.2.1 → True) ∧ ((m.2.2.2.1.length ≤ lenMax ∧ ∀ x1 : Mt, x1 ∈ m.2.2.2.1 → ((x1.1.length ≤ lenMax ∧ ∀ x2 : Tp, x2 ∈ x1.1 → (True ∧ (True ∧ True))) ∧ ((x1.2.1.length ≤ lenMax ∧ ∀ x2 : Tp, x2 ∈ x1.2.1 → (True ∧ (True ∧ True))) ∧ ((True ∧ (True ∧ True)) ∧ ((x1.2.2.2.1.length ≤ lenMax ∧ ∀ x2 : Ins, x2 ∈ x1.2.2.2.1 → (True ∧ (True ∧ (True ∧ True)))) ∧ (True ∧ (True ∧ ((x1.2.2.2.2.2.2.1.length ≤ lenMax ∧ ∀ x2 : Int, x2 ∈ x1.2.2.2.2.2.2.1 → True) ∧ True)))))))) ∧ ((m.2.2.2.2.1.length ≤ lenMax ∧ ∀ x1 : Int, x1 ∈ m.2.2.2.2.1 → True) ∧ (True ∧ (True ∧ True))))))) ∧ (l.length ≤ lenMax ∧ ∀ x1 : List Tp, x1 ∈ l → (x1.length ≤ lenMax ∧ ∀ x2 : Tp, x2 ∈ x1 → (True ∧ (True ∧ True)))) ∧ True
def sallL1 (m : Im) (l : List (List Tp)) (s1 : Int × Unit) (rec2 : (Int × Unit) → Option (Bool × Unit)) (s3 : Int × Unit) (rec4 : (Int × Unit) → Option (Bool × Unit)) : Option (Bool × Unit) :=
 bif decide (s3.1 < ((l.getD s1.1.toNat ([] : List Tp)).length : Int)) then
  bif decide (0 ≤ s3.1) && decide (s3.1 < (l.getD s1.1.toNat ([] : List Tp)).length) then
   bif !(kgood ((l.getD s1.1.toNat ([] : List Tp)).getD s3.1.toNat zTp) (m.1.length : Int)) then
    some (false, ())
   else rec4 (IntKind.i64.wrap (s3.1 + 1), ())
  else none
 else rec2 (IntKind.i64.wrap (s1.1 + 1), ())
def sallL2 (m : Im) (l : List (List Tp)) (fuel : Nat) (s1 : Int × Unit) (rec2 : (Int × Unit) → Option (Bool × Unit)) : Option (Bool × Unit) :=
 bif decide (s1.1 < (l.length : Int)) then
  bif decide (0 ≤ s1.1) && decide (s1.1 < l.length) then
   loopF (sallL1 m l s1 rec2) fuel ((0 : Int), ())
  else none
 else some (true, ())
def sallN (fuel : Nat) (m : Im) (l : List (List Tp)) : Option (Bool × Unit) :=
 loopF (sallL2 m l fuel) fuel ((0 : Int), ())
def saboveL1 (m : Im) (s1 : List Int × Unit) (s3 : Int × Int × Unit) (rec4 : (Int × Int × Unit) → Option (Int × List Int × Unit)) : Option (Int × List Int × Unit) :=
 bif decide (s3.2.1 ≥ 0) then
  bif decide (0 ≤ s3.2.1) && decide (s3.2.1 < m.1.length) then
   bif decide (0 ≤ s3.2.1) && decide (s3.2.1 < m.1.length) then
    rec4 (IntKind.i64.wrap (s3.1 + ((m.1.getD s3.2.1.toNat zCl).2.1.length : Int)), (m.1.getD s3.2.1.toNat zCl).1, ())
   else none
  else none
 else some (s3.1, s1.1, ())
def saboveN (fuel : Nat) (m : Im) (c : Int) : Option (Int × List Int × Unit) :=
 (bif decide (0 ≤ c) && decide (c < m.1.length) then
  bif decide ((m.1.getD c.toNat zCl).1 ≥ 0) then
   bif decide (0 ≤ (m.1.getD c.toNat zCl).1) && decide ((m.1.getD c.toNat zCl).1 < m.1.length) then
    some (.inl ((m.1.getD (m.1.getD c.toNat zCl).1.toNat zCl).2.2.1, ()))
   else none
  else some (.inl (([] : List Int), ()))
 else none : Option ((List Int × Unit) ⊕ (Int × List Int × Unit))).bind fun q => match q with
 | .inr r2 => some r2
 | .inl s1 =>
  bif decide (0 ≤ c) && decide (c < m.1.length) then
   loopF (saboveL1 m s1) fuel ((0 : Int), (m.1.getD c.toNat zCl).1, ())
  else none
def sfitsN (m : Im) (c : Int) (f : Int) : Option (Bool × Unit) :=
 bif decide (0 ≤ f) && decide (f < m.2.2.2.1.length) then
  bif decide (((m.2.2.2.1.getD f.toNat zMt).1.length : Int) > 0) then
   bif decide ((0 : Int) < (m.2.2.2.1.getD f.toNat zMt).1.length) then
    some ((ksub m.1 ((3 : Int), c, ()) ((m.2.2.2.1.getD f.toNat zMt).1.getD 0 zTp)), ())
   else none
  else some (false, ())
 else none
def salikeN (a : Mt) (b : Mt) : Option (Bool × Unit) :=
 bif decide ((a.1.length : Int) > 0) then
  bif decide ((b.1.length : Int) > 0) then
   bif decide ((1 : Int) ≤ (a.1.length : Int)) && decide ((a.1.length : Int) ≤ (a.1.length : Int)) then
    bif decide ((1 : Int) ≤ (b.1.length : Int)) && decide ((b.1.length : Int) ≤ (b.1.length : Int)) then
     bif (eqL ((a.1.take a.1.length).drop 1) ((b.1.take b.1.length).drop 1)) then
      some ((a.2.2.1.1 == b.2.2.1.1) && ((a.2.2.1.2.1 == b.2.2.1.2.1) && true), ())
     else some (false, ())
    else none
   else none
  else some (false, ())
 else some (false, ())
def sclassL1 (m : Im) (c : Int) (r1 : Int × List Int × Unit) (s2 : Int × Unit) (rec3 : (Int × Unit) → Option (Bool × Unit)) : Option (Bool × Unit) :=
 bif decide (s2.1 < ((m.1.getD c.toNat zCl).2.2.1.length : Int)) then
  bif decide (0 ≤ s2.1) && decide (s2.1 < (m.1.getD c.toNat zCl).2.2.1.length) then
   bif !(sin ((m.1.getD c.toNat zCl).2.2.1.getD s2.1.toNat 0) (m.2.2.2.1.length : Int)) then
    some (false, ())
   else 
    (sfits m c ((m.1.getD c.toNat zCl).2.2.1.getD s2.1.toNat 0)).bind fun r4 =>
    bif !r4.1 then
     some (false, ())
    else bif decide (s2.1 < (r1.2.1.length : Int)) then
     bif decide (0 ≤ (m.1.getD c.toNat zCl).2.2.1.getD s2.1.toNat 0) && decide ((m.1.getD c.toNat zCl).2.2.1.getD s2.1.toNat 0 < m.2.2.2.1.length) then
      bif decide (0 ≤ s2.1) && decide (s2.1 < r1.2.1.length) then
       bif decide (0 ≤ r1.2.1.getD s2.1.toNat 0) && decide (r1.2.1.getD s2.1.toNat 0 < m.2.2.2.1.length) then
        bif !(salike (m.2.2.2.1.getD ((m.1.getD c.toNat zCl).2.2.1.getD s2.1.toNat 0).toNat zMt) (m.2.2.2.1.getD (r1.2.1.getD s2.1.toNat 0).toNat zMt)) then
         some (false, ())
        else rec3 (IntKind.i64.wrap (s2.1 + 1), ())
       else none
      else none
     else none
    else rec3 (IntKind.i64.wrap (s2.1 + 1), ())
  else none
 else some (true, ())
def sclassN (fuel : Nat) (m : Im) (c : Int) : Option (Bool × Unit) :=
 bif decide (0 ≤ c) && decide (c < m.1.length) then
  bif decide ((m.1.getD c.toNat zCl).1 ≥ c) then
   some (false, ())
  else bif !(sall m [(m.1.getD c.toNat zCl).2.1]) then
   some (false, ())
  else 
   (sabove m c).bind fun r1 =>
   bif decide (IntKind.i64.wrap (r1.1 + ((m.1.getD c.toNat zCl).2.1.length : Int)) > 8) then
    some (false, ())
   else bif decide (((m.1.getD c.toNat zCl).2.2.1.length : Int) < (r1.2.1.length : Int)) then
    some (false, ())
   else loopF (sclassL1 m c r1) fuel ((0 : Int), ())
 else none
def sfieldsN (c : Int) (m : Im) : Option (Int × Unit) :=
 (sabove m c).bind fun r1 =>
 bif decide (0 ≤ c) && decide (c < m.1.length) then
  some (IntKind.i64.wrap (r1.1 + ((m.1.getD c.toNat zCl).2.1.length : Int)), ())
 else none
def sinstrN (m : Im) (x : Mt) (i : Ins) (f : Im × Unit) : Option (Bool × Unit) :=
 bif i.1 == 1 then
  some ((sin i.2.1 (m.2.2.1.length : Int)), ())
 else 
  (bif i.1 == 3 then
   some (.inl (true, ()))
  else some (.inl (i.1 == 4, ())) : Option ((Bool × Unit) ⊕ (Bool × Unit))).bind fun q => match q with
  | .inr r2 => some r2
  | .inl s1 =>
   bif s1.1 then
    some ((sin i.2.1 (IntKind.i64.wrap ((x.1.length : Int) + (x.2.1.length : Int)))), ())
   else 
    (bif i.1 == 18 then
     some (.inl (true, ()))
    else some (.inl (i.1 == 19, ())) : Option ((Bool × Unit) ⊕ (Bool × Unit))).bind fun q => match q with
    | .inr r4 => some r4
    | .inl s3 =>
     bif s3.1 then
      some ((sin i.2.1 (x.2.2.2.1.length : Int)), ())
     else 
      (bif i.1 == 22 then
       some (.inl (true, ()))
      else some (.inl (i.1 == 34, ())) : Option ((Bool × Unit) ⊕ (Bool × Unit))).bind fun q => match q with
      | .inr r6 => some r6
      | .inl s5 =>
       bif s5.1 then
        some ((sin i.2.1 (m.1.length : Int)), ())
       else 
        (bif i.1 == 27 then
         some (.inl (true, ()))
        else some (.inl (i.1 == 28, ())) : Option ((Bool × Unit) ⊕ (Bool × Unit))).bind fun q => match q with
        | .inr r8 => some r8
        | .inl s7 =>
         bif s7.1 then
          bif (sin i.2.1 (m.1.length : Int)) then
           (sfields i.2.1 f.1).bind fun r9 =>
           some ((sin i.2.2.1 r9.1), ())
          else some (false, ())
         else 
          (bif i.1 == 29 then
           some (.inl (true, ()))
          else some (.inl (i.1 == 30, ())) : Option ((Bool × Unit) ⊕ (Bool × Unit))).bind fun q => match q with
          | .inr r11 => some r11
          | .inl s10 =>
           bif s10.1 then
            some ((sin i.2.1 (m.2.1.length : Int)), ())
           else bif i.1 == 31 then
            some ((sin i.2.1 (m.2.2.2.1.length : Int)), ())
           else bif i.1 == 32 then
            bif (sin i.2.1 (m.1.length : Int)) then
             bif decide (0 ≤ i.2.1) && decide (i.2.1 < m.1.length) then
              some ((sin i.2.2.1 ((m.1.getD i.2.1.toNat zCl).2.2.1.length : Int)), ())
             else none
            else some (false, ())
           else some (true, ())
def smethodL1 (m : Im) (x : Mt) (s3 : Int × Unit) (rec4 : (Int × Unit) → Option (Bool × Unit)) : Option (Bool × Unit) :=
 bif decide (s3.1 < (x.2.2.2.1.length : Int)) then
  bif decide (0 ≤ s3.1) && decide (s3.1 < x.2.2.2.1.length) then
   (sinstr m x (x.2.2.2.1.getD s3.1.toNat zIns) (m, ())).bind fun r5 =>
   bif !r5.1 then
    some (false, ())
   else rec4 (IntKind.i64.wrap (s3.1 + 1), ())
  else none
 else some (true, ())
def smethodN (fuel : Nat) (m : Im) (x : Mt) : Option (Bool × Unit) :=
 (bif !(sall m [x.1, x.2.1]) then
  some (.inr (false, ()))
 else bif !((x.2.2.1.1 == 5) && ((x.2.2.1.2.1 == 0) && true)) then
  bif !(sall m [[x.2.2.1]]) then
   some (.inr (false, ()))
  else some (.inl ())
 else some (.inl ()) : Option (Unit ⊕ (Bool × Unit))).bind fun q => match q with
 | .inr r2 => some r2
 | .inl _ =>
  bif (x.2.2.2.1.length : Int) == 0 then
   some (false, ())
  else bif (x.2.2.2.2.2.2.1.length : Int) != (x.2.2.2.1.length : Int) then
   some (false, ())
  else bif decide (IntKind.i64.wrap ((x.1.length : Int) + (x.2.1.length : Int)) > 8) then
   some (false, ())
  else loopF (smethodL1 m x) fuel ((0 : Int), ())
def sentry1N (t : Tp) : Option (Bool × Unit) :=
 some ((t.1 == 1) && ((t.2.1 == 0) && true), ())
def sentry2N (t : Tp) (_f : Unit) : Option (Bool × Unit) :=
 some (!(sentry1 t), ())
def sentryN (m : Im) (f : Int) : Option (Bool × Unit) :=
 bif !(sin f (m.2.2.2.1.length : Int)) then
  some (false, ())
 else bif decide (0 ≤ f) && decide (f < m.2.2.2.1.length) then
  bif (sentry1 (m.2.2.2.1.getD f.toNat zMt).2.2.1) then
   some (!(containsEntry (m.2.2.2.1.getD f.toNat zMt).1 ((), ())), ())
  else bif ((m.2.2.2.1.getD f.toNat zMt).2.2.1.1) == 5 then
   some (!(containsEntry (m.2.2.2.1.getD f.toNat zMt).1 ((), ())), ())
  else some (false, ())
 else none
def scheckLen (m : Im) : Prop := ((m.1.length ≤ lenMax ∧ ∀ x1 : Cl, x1 ∈ m.1 → (True ∧ ((x1.2.1.length ≤ lenMax ∧ ∀ x2 : Tp, x2 ∈ x1.2.1 → (True ∧ (True ∧ True))) ∧ ((x1.2.2.1.length ≤ lenMax ∧ ∀ x2 : Int, x2 ∈ x1.2.2.1 → True) ∧ True)))) ∧ ((m.2.1.length ≤ lenMax ∧ ∀ x1 : Tp, x1 ∈ m.2.1 → (True ∧ (True ∧ True))) ∧ ((m.2.2.1.length ≤ lenMax ∧ ∀ x1 : Int, x1 ∈ m.2.2.1 → True) ∧ ((m.2.2.2.1.length ≤ lenMax ∧ ∀ x1 : Mt, x1 ∈ m.2.2.2.1 → ((x1.1.length ≤ lenMax ∧ ∀ x2 : Tp, x2 ∈ x1.1 → (True ∧ (True ∧ True))) ∧ ((x1.2.1.length ≤ lenMax ∧ ∀ x2 : Tp, x2 ∈ x1.2.1 → (True ∧ (True ∧ True))) ∧ ((True ∧ (True ∧ True)) ∧ ((x1.2.2.2.1.length ≤ lenMax ∧ ∀ x2 : Ins, x2 ∈ x1.2.2.2.1 → (True ∧ (True ∧ (True ∧ True)))) ∧ (True ∧ (True ∧ ((x1.2.2.2.2.2.2.1.length ≤ lenMax ∧ ∀ x2 : Int, x2 ∈ x1.2.2.2.2.2.2.1 → True) ∧ True)))))))) ∧ ((m.2.2.2.2.1.length ≤ lenMax ∧ ∀ x1 : Int, x1 ∈ m.2.2.2.2.1 → True) ∧ (True ∧ (True ∧ True))))))) ∧ True
def scheckL1 (m : Im) (s7 : Int × Unit) (rec8 : (Int × Unit) → Option (Int × Unit)) : Option (Int × Unit) :=
 bif decide (s7.1 < (m.2.2.2.2.1.length : Int)) then
  bif decide (0 ≤ s7.1) && decide (s7.1 < m.2.2.2.2.1.length) then
   (sentry m (m.2.2.2.2.1.getD s7.1.toNat 0)).bind fun r9 =>
   bif !r9.1 then
    some ((3 : Int), ())
   else rec8 (IntKind.i64.wrap (s7.1 + 1), ())
  else none
 else some ((0 : Int), ())
def scheckL2 (m : Im) (fuel : Nat) (s4 : Int × Unit) (rec5 : (Int × Unit) → Option (Int × Unit)) : Option (Int × Unit) :=
 bif decide (s4.1 < (m.2.2.2.1.length : Int)) then
  bif decide (0 ≤ s4.1) && decide (s4.1 < m.2.2.2.1.length) then
   (smethod m (m.2.2.2.1.getD s4.1.toNat zMt)).bind fun r6 =>
   bif !r6.1 then
    some ((3 : Int), ())
   else rec5 (IntKind.i64.wrap (s4.1 + 1), ())
  else none
 else loopF (scheckL1 m) fuel ((0 : Int), ())
def scheckL3 (m : Im) (fuel : Nat) (s1 : Int × Unit) (rec2 : (Int × Unit) → Option (Int × Unit)) : Option (Int × Unit) :=
 bif decide (s1.1 < (m.1.length : Int)) then
  (sclass m s1.1).bind fun r3 =>
  bif !r3.1 then
   some ((3 : Int), ())
  else rec2 (IntKind.i64.wrap (s1.1 + 1), ())
 else loopF (scheckL2 m fuel) fuel ((0 : Int), ())
def scheckN (fuel : Nat) (m : Im) : Option (Int × Unit) :=
 bif !(ifits m) then
  some ((2 : Int), ())
 else bif !(sall m [m.2.1]) then
  some ((3 : Int), ())
 else loopF (scheckL3 m fuel) fuel ((0 : Int), ())
def awake6N : Option (Bool × Unit) :=
 bif (scheck (([] : List Cl), (([] : List Tp), (([] : List Int), ([(([] : List Tp), (([] : List Tp), (((5 : Int), ((0 : Int), ())), ([((33 : Int), ((0 : Int), ((0 : Int), ())))], ((0 : Int), ((0 : Int), (([0] : List Int), ())))))))], (([0] : List Int), ((0 : Int), ((0 : Int), ())))))))) == 0 then
  bif (scheck (([] : List Cl), (([] : List Tp), (([] : List Int), ([(([] : List Tp), (([] : List Tp), (((5 : Int), ((0 : Int), ())), ([((33 : Int), ((0 : Int), ((0 : Int), ())))], ((0 : Int), ((0 : Int), (([0] : List Int), ())))))))], (([1] : List Int), ((0 : Int), ((0 : Int), ())))))))) == 3 then
   bif (scheck (([] : List Cl), (([] : List Tp), (([] : List Int), (([] : List Mt), (([] : List Int), ((-1 : Int), ((0 : Int), ())))))))) == 2 then
    some ((r5fits (([] : List Cl), (([] : List Tp), (([] : List Int), ([(([] : List Tp), (([] : List Tp), (((5 : Int), ((0 : Int), ())), ([((33 : Int), ((0 : Int), ((0 : Int), ())))], ((0 : Int), ((0 : Int), (([0] : List Int), ())))))))], (([1] : List Int), ((0 : Int), ((0 : Int), ())))))))), ())
   else some (false, ())
  else some (false, ())
 else some (false, ())
def small6Len (m : Im) : Prop := ((m.1.length ≤ lenMax ∧ ∀ x1 : Cl, x1 ∈ m.1 → (True ∧ ((x1.2.1.length ≤ lenMax ∧ ∀ x2 : Tp, x2 ∈ x1.2.1 → (True ∧ (True ∧ True))) ∧ ((x1.2.2.1.length ≤ lenMax ∧ ∀ x2 : Int, x2 ∈ x1.2.2.1 → True) ∧ True)))) ∧ ((m.2.1.length ≤ lenMax ∧ ∀ x1 : Tp, x1 ∈ m.2.1 → (True ∧ (True ∧ True))) ∧ ((m.2.2.1.length ≤ lenMax ∧ ∀ x1 : Int, x1 ∈ m.2.2.1 → True) ∧ ((m.2.2.2.1.length ≤ lenMax ∧ ∀ x1 : Mt, x1 ∈ m.2.2.2.1 → ((x1.1.length ≤ lenMax ∧ ∀ x2 : Tp, x2 ∈ x1.1 → (True ∧ (True ∧ True))) ∧ ((x1.2.1.length ≤ lenMax ∧ ∀ x2 : Tp, x2 ∈ x1.2.1 → (True ∧ (True ∧ True))) ∧ ((True ∧ (True ∧ True)) ∧ ((x1.2.2.2.1.length ≤ lenMax ∧ ∀ x2 : Ins, x2 ∈ x1.2.2.2.1 → (True ∧ (True ∧ (True ∧ True)))) ∧ (True ∧ (True ∧ ((x1.2.2.2.2.2.2.1.length ≤ lenMax ∧ ∀ x2 : Int, x2 ∈ x1.2.2.2.2.2.2.1 → True) ∧ True)))))))) ∧ ((m.2.2.2.2.1.length ≤ lenMax ∧ ∀ x1 : Int, x1 ∈ m.2.2.2.2.1 → True) ∧ (True ∧ (True ∧ True))))))) ∧ True
def small6L1 (m : Im) (s1 : Int × Unit) (rec2 : (Int × Unit) → Option (Bool × Unit)) : Option (Bool × Unit) :=
 bif decide (s1.1 < (m.2.2.2.1.length : Int)) then
  bif decide (0 ≤ s1.1) && decide (s1.1 < m.2.2.2.1.length) then
   bif decide (IntKind.i64.wrap ((IntKind.i64.wrap ((IntKind.i64.wrap (((m.2.2.2.1.getD s1.1.toNat zMt).1.length : Int) + ((m.2.2.2.1.getD s1.1.toNat zMt).2.1.length : Int))) + ((m.2.2.2.1.getD s1.1.toNat zMt).2.2.2.1.length : Int))) + ((m.2.2.2.1.getD s1.1.toNat zMt).2.2.2.2.2.2.1.length : Int)) > 1000) then
    some (false, ())
   else rec2 (IntKind.i64.wrap (s1.1 + 1), ())
  else none
 else some (true, ())
def small6N (fuel : Nat) (m : Im) : Option (Bool × Unit) :=
 bif decide (IntKind.i64.wrap ((IntKind.i64.wrap ((IntKind.i64.wrap ((IntKind.i64.wrap ((m.1.length : Int) + (m.2.1.length : Int))) + (m.2.2.1.length : Int))) + (m.2.2.2.1.length : Int))) + (m.2.2.2.2.1.length : Int)) > 300) then
  some (false, ())
 else loopF (small6L1 m) fuel ((0 : Int), ())
end Go.Pli
