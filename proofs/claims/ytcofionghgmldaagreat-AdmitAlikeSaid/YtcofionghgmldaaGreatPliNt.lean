/- Who calls whom: what the functions come to, in plain Lean. -/
import Derived.Test.YtcofionghgmldaaGreatPliSp
namespace Go.Pli
open Go Go.PM
def ints (n : Nat) : List Int := (List.range n).map fun k : Nat => (k : Int)
def leI (x y : Int) : Bool := decide (x ≤ y)
def insI (x : Int) : List Int → List Int
 | [] => [x]
 | y :: l => bif leI x y then x :: y :: l else y :: insI x l
def sortL : List Int → List Int
 | [] => []
 | x :: l => insI x (sortL l)
def sortI (l : List Int) : List Int × Unit := (sortL l, ())
def compactI : List Int → List Int
 | [] => []
 | a :: l => match compactI l with
  | [] => [a]
  | b :: r => bif a == b then b :: r else a :: b :: r
def nM (m : Im) : Int := (m.2.2.2.1.length : Int)
def belowB (m : Im) (c : Int) : List Int := (ints m.1.length).filter fun n => kbelow m.1 n c
def cbelow (m : Im) (c : Int) : Option (List Int × Unit) := bif ifits m then some (belowB m c, ()) else none
def r5below (m : Im) (c : Int) : Option (List Int × Unit) := bif ifits m then some (belowB m c, ()) else none
def hasSlot (m : Im) (c n : Int) : Bool := (decide (0 ≤ c) && decide (c < (m.1.length : Int))) && (decide (0 ≤ n) && decide (n < ((clOf m c).2.2.1.length : Int)))
def cslot (m : Im) (c n : Int) : Int × Bool × Unit := bif hasSlot m c n then ((clOf m c).2.2.1.getD n.toNat 0, true, ()) else (0, false, ())
def r5slot (m : Im) (c n : Int) : Int × Bool × Unit := cslot m c n
def slotsOf (m : Im) (l : List Int) (n : Int) : List Int := (l.filter fun c => (cslot m c n).2.1).map fun c => (cslot m c n).1
def targetsB (m : Im) (i : Ins) : List Int := bif i.1 == 31 then [i.2.1] else bif i.1 == 32 then slotsOf m (belowB m i.2.1) i.2.2.1 else []
def ctargets (m : Im) (i : Ins) : Option (List Int × Unit) := bif ifits m then some (targetsB m i, ()) else none
def r8targets (m : Im) (i : Ins) : Option (List Int × Unit) := bif ifits m then some (targetsB m i, ()) else none
def inM (m : Im) (f : Int) : Bool := sin f (nM m)
def allT (m : Im) (f : Int) : List Int := ((mtOf m f).2.2.2.1.map (targetsB m)).flatten
def ofB (m : Im) (f : Int) : List Int := bif inM m f then compactI (sortL (allT m f)) else []
def cof (m : Im) (f : Int) : Option (List Int × Unit) := bif ifits m then some (ofB m f, ()) else none
def callsB (m : Im) (f g : Int) : Bool := (mtOf m f).2.2.2.1.any fun i => (targetsB m i).contains g
def r8calls (m : Im) (f g : Int) : Option (Bool × Unit) := bif ifits m && inM m f then some (callsB m f g, ()) else none
def edgesB (m : Im) : List (List Int) := (ints m.2.2.2.1.length).map fun f => (ints m.2.2.2.1.length).filter fun g => callsB m f g
def r8edges (m : Im) : Option (List (List Int) × Unit) := bif ifits m then some (edgesB m, ()) else none
def tgtOk (m : Im) : Bool := (ints m.2.2.2.1.length).all fun f => (allT m f).all (inM m)
end Go.Pli

namespace Go.Pli
open Go Go.PM
def cbelowL1 (m : Im) (c : Int) (s1 : List Int × Int × Unit) (rec2 : (List Int × Int × Unit) → Option (List Int × Unit)) : Option (List Int × Unit) :=
 bif decide (s1.2.1 < (m.1.length : Int)) then
  bif (kbelow m.1 s1.2.1 c) then
   bif decide (s1.1.length + [s1.2.1].length < rowMax) then
    rec2 (s1.1 ++ [s1.2.1], IntKind.i64.wrap (s1.2.1 + 1), ())
   else none
  else rec2 (s1.1, IntKind.i64.wrap (s1.2.1 + 1), ())
 else some ((idL s1.1), ())
def cbelowN (fuel : Nat) (m : Im) (c : Int) : Option (List Int × Unit) :=
 loopF (cbelowL1 m c) fuel (([] : List Int), ((0 : Int), ()))
def cslotN (m : Im) (c : Int) (n : Int) : Option (Int × Bool × Unit) :=
 bif decide (c < 0) then
  some ((0 : Int), false, ())
 else bif decide (c ≥ (m.1.length : Int)) then
  some ((0 : Int), false, ())
 else bif decide (n < 0) then
  some ((0 : Int), false, ())
 else bif decide (0 ≤ c) && decide (c < m.1.length) then
  bif decide (n ≥ ((m.1.getD c.toNat zCl).2.2.1.length : Int)) then
   some ((0 : Int), false, ())
  else bif decide (0 ≤ c) && decide (c < m.1.length) then
   bif decide (0 ≤ n) && decide (n < (m.1.getD c.toNat zCl).2.2.1.length) then
    some ((m.1.getD c.toNat zCl).2.2.1.getD n.toNat 0, true, ())
   else none
  else none
 else none
def ctargetsL1 (m : Im) (i : Ins) (r1 : List Int × Unit) (s2 : List Int × Int × Unit) (rec3 : (List Int × Int × Unit) → Option (List Int × Unit)) : Option (List Int × Unit) :=
 bif decide (s2.2.1 < (r1.1.length : Int)) then
  bif decide (0 ≤ s2.2.1) && decide (s2.2.1 < r1.1.length) then
   let r4 := cslot m (r1.1.getD s2.2.1.toNat 0) i.2.2.1
   bif r4.2.1 then
    bif decide (s2.1.length + [r4.1].length < rowMax) then
     rec3 (s2.1 ++ [r4.1], IntKind.i64.wrap (s2.2.1 + 1), ())
    else none
   else rec3 (s2.1, IntKind.i64.wrap (s2.2.1 + 1), ())
  else none
 else some (s2.1, ())
def ctargetsN (fuel : Nat) (m : Im) (i : Ins) : Option (List Int × Unit) :=
 bif i.1 == 31 then
  bif decide (([] : List Int).length + [i.2.1].length < rowMax) then
   some (([] : List Int) ++ [i.2.1], ())
  else none
 else bif i.1 == 32 then
  (cbelow m i.2.1).bind fun r1 =>
  loopF (ctargetsL1 m i r1) fuel (([] : List Int), ((0 : Int), ()))
 else some (([] : List Int), ())
def cofL1 (m : Im) (f : Int) (s1 : List Int × Int × Unit) (rec2 : (List Int × Int × Unit) → Option (List Int × Unit)) : Option (List Int × Unit) :=
 bif decide (s1.2.1 < ((m.2.2.2.1.getD f.toNat zMt).2.2.2.1.length : Int)) then
  bif decide (0 ≤ s1.2.1) && decide (s1.2.1 < (m.2.2.2.1.getD f.toNat zMt).2.2.2.1.length) then
   (ctargets m ((m.2.2.2.1.getD f.toNat zMt).2.2.2.1.getD s1.2.1.toNat zIns)).bind fun r3 =>
   bif decide (s1.1.length + r3.1.length < rowMax) && true then
    rec2 (s1.1 ++ r3.1, IntKind.i64.wrap (s1.2.1 + 1), ())
   else none
  else none
 else 
  let r4 := sortI s1.1
  some ((idL (compactI r4.1)), ())
def cofN (fuel : Nat) (m : Im) (f : Int) : Option (List Int × Unit) :=
 bif decide (f < 0) then
  some (([] : List Int), ())
 else bif decide (f ≥ (m.2.2.2.1.length : Int)) then
  some (([] : List Int), ())
 else bif decide (0 ≤ f) && decide (f < m.2.2.2.1.length) then
  loopF (cofL1 m f) fuel (([] : List Int), ((0 : Int), ()))
 else none
def r5belowL1 (m : Im) (c : Int) (s1 : List Int × Int × Unit) (rec2 : (List Int × Int × Unit) → Option (List Int × Unit)) : Option (List Int × Unit) :=
 bif decide (s1.2.1 < (m.1.length : Int)) then
  (rabove m.1 s1.2.1).bind fun r3 =>
  (rin r3.1 c).bind fun r4 =>
  bif r4.1 then
   bif decide (s1.1.length + [s1.2.1].length < rowMax) then
    rec2 (s1.1 ++ [s1.2.1], IntKind.i64.wrap (s1.2.1 + 1), ())
   else none
  else rec2 (s1.1, IntKind.i64.wrap (s1.2.1 + 1), ())
 else some (s1.1, ())
def r5belowN (fuel : Nat) (m : Im) (c : Int) : Option (List Int × Unit) :=
 loopF (r5belowL1 m c) fuel (([] : List Int), ((0 : Int), ()))
def r5slotN (m : Im) (c : Int) (n : Int) : Option (Int × Bool × Unit) :=
 bif decide (c < 0) then
  some ((0 : Int), false, ())
 else bif decide (c ≥ (m.1.length : Int)) then
  some ((0 : Int), false, ())
 else bif decide (n < 0) then
  some ((0 : Int), false, ())
 else bif decide (0 ≤ c) && decide (c < m.1.length) then
  bif decide (n ≥ ((m.1.getD c.toNat zCl).2.2.1.length : Int)) then
   some ((0 : Int), false, ())
  else bif decide (0 ≤ c) && decide (c < m.1.length) then
   bif decide (0 ≤ n) && decide (n < (m.1.getD c.toNat zCl).2.2.1.length) then
    some ((m.1.getD c.toNat zCl).2.2.1.getD n.toNat 0, true, ())
   else none
  else none
 else none
def r8targetsL1 (m : Im) (i : Ins) (r3 : List Int × Unit) (s4 : List Int × Int × Unit) (rec5 : (List Int × Int × Unit) → Option (List Int × Unit)) : Option (List Int × Unit) :=
 bif decide (s4.2.1 < (r3.1.length : Int)) then
  bif decide (0 ≤ s4.2.1) && decide (s4.2.1 < r3.1.length) then
   let r6 := r5slot m (r3.1.getD s4.2.1.toNat 0) i.2.2.1
   bif r6.2.1 then
    bif decide (s4.1.length + [r6.1].length < rowMax) then
     rec5 (s4.1 ++ [r6.1], IntKind.i64.wrap (s4.2.1 + 1), ())
    else none
   else rec5 (s4.1, IntKind.i64.wrap (s4.2.1 + 1), ())
  else none
 else some (s4.1, ())
def r8targetsN (fuel : Nat) (m : Im) (i : Ins) : Option (List Int × Unit) :=
 (bif i.1 == 31 then
  bif decide (([] : List Int).length + [i.2.1].length < rowMax) then
   some (.inl (([] : List Int) ++ [i.2.1], ()))
  else none
 else some (.inl (([] : List Int), ())) : Option ((List Int × Unit) ⊕ (List Int × Unit))).bind fun q => match q with
 | .inr r2 => some r2
 | .inl s1 =>
  bif i.1 == 32 then
   (r5below m i.2.1).bind fun r3 =>
   loopF (r8targetsL1 m i r3) fuel (s1.1, ((0 : Int), ()))
  else some (s1.1, ())
def r8callsL1 (m : Im) (f : Int) (g : Int) (s1 : Int × Unit) (rec2 : (Int × Unit) → Option (Bool × Unit)) : Option (Bool × Unit) :=
 bif decide (0 ≤ f) && decide (f < m.2.2.2.1.length) then
  bif decide (s1.1 < ((m.2.2.2.1.getD f.toNat zMt).2.2.2.1.length : Int)) then
   bif decide (0 ≤ f) && decide (f < m.2.2.2.1.length) then
    bif decide (0 ≤ s1.1) && decide (s1.1 < (m.2.2.2.1.getD f.toNat zMt).2.2.2.1.length) then
     (r8targets m ((m.2.2.2.1.getD f.toNat zMt).2.2.2.1.getD s1.1.toNat zIns)).bind fun r3 =>
     (rin r3.1 g).bind fun r4 =>
     bif r4.1 then
      some (true, ())
     else rec2 (IntKind.i64.wrap (s1.1 + 1), ())
    else none
   else none
  else some (false, ())
 else none
def r8callsN (fuel : Nat) (m : Im) (f : Int) (g : Int) : Option (Bool × Unit) :=
 loopF (r8callsL1 m f g) fuel ((0 : Int), ())
def r8edgesL1 (m : Im) (s1 : List (List Int) × Int × Unit) (rec2 : (List (List Int) × Int × Unit) → Option (List (List Int) × Unit)) (s3 : List Int × Int × Unit) (rec4 : (List Int × Int × Unit) → Option (List (List Int) × Unit)) : Option (List (List Int) × Unit) :=
 bif decide (s3.2.1 < (m.2.2.2.1.length : Int)) then
  (r8calls m s1.2.1 s3.2.1).bind fun r5 =>
  bif r5.1 then
   bif decide (s3.1.length + [s3.2.1].length < rowMax) then
    rec4 (s3.1 ++ [s3.2.1], IntKind.i64.wrap (s3.2.1 + 1), ())
   else none
  else rec4 (s3.1, IntKind.i64.wrap (s3.2.1 + 1), ())
 else bif decide (s1.1.length + [s3.1].length < rowMax) && true then
  rec2 (s1.1 ++ [s3.1], IntKind.i64.wrap (s1.2.1 + 1), ())
 else none
def r8edgesL2 (m : Im) (fuel : Nat) (s1 : List (List Int) × Int × Unit) (rec2 : (List (List Int) × Int × Unit) → Option (List (List Int) × Unit)) : Option (List (List Int) × Unit) :=
 bif decide (s1.2.1 < (m.2.2.2.1.length : Int)) then
  loopF (r8edgesL1 m s1 rec2) fuel (([] : List Int), ((0 : Int), ()))
 else some (s1.1, ())
def r8edgesN (fuel : Nat) (m : Im) : Option (List (List Int) × Unit) :=
 loopF (r8edgesL2 m fuel) fuel (([] : List (List Int)), ((0 : Int), ()))
end Go.Pli

namespace Go.Pli
open Go Go.PM
noncomputable def pick {α : Type} (f : Nat → Option α) : Option α := open Classical in if h : ∃ k, (f k).isSome then f h.choose else none
theorem pick_ok {α : Type} {f : Nat → Option α} {r : α} (h : pick f = some r) : ∃ k, f k = some r := by
 unfold pick at h
 split at h
 ·exact ⟨_, h⟩
 ·cases h
def Ends {α : Type} (f : Nat → Option α) (Q : α → Prop) : Prop := ∃ K, ∀ k, (∃ r, f k = some r ∧ Q r) ∨ (f k = none ∧ k ≤ K)
theorem pick_ends {α : Type} {f : Nat → Option α} {Q : α → Prop} (h : Ends f Q) : ∃ r, pick f = some r ∧ Q r := by
 obtain ⟨K, h⟩ := h
 have hs : ∃ k, (f k).isSome := by
  rcases h (K + 1) with ⟨r, hr, -⟩ | ⟨-, hk⟩
  ·exact ⟨K + 1, by rw [hr]; rfl⟩
  ·omega
 unfold pick
 rw [dif_pos hs]
 have := hs.choose_spec
 rcases h hs.choose with ⟨r, hr, hq⟩ | ⟨hn, -⟩
 ·exact ⟨r, hr, hq⟩
 ·rw [hn] at this; cases this
theorem loop_ends {S R : Type} {L : S → (S → Option R) → Option R} {I : S → Prop} {μ : S → Nat} {Q : R → Prop}
  (h : ∀ s rec, I s → (∃ r, L s rec = some r ∧ Q r) ∨ ∃ s', L s rec = rec s' ∧ I s' ∧ μ s' < μ s) : ∀ (k : Nat) (s : S), I s → (∃ r, loopF L k s = some r ∧ Q r) ∨ (loopF L k s = none ∧ k ≤ μ s)
 | 0, s, _ => .inr ⟨rfl, Nat.zero_le _⟩
 | k + 1, s, hs => by
  rw [loopF_step]
  rcases h s (loopF L k) hs with h1 | ⟨s', h1, hs', hm⟩
  ·exact .inl h1
  ·rw [h1]
   rcases loop_ends h k s' hs' with h2 | ⟨h2, hk⟩
   ·exact .inl h2
   ·exact .inr ⟨h2, by omega⟩
end Go.Pli

namespace Go.Pli
open Go Go.PM
noncomputable section
def fenterN (f : List (List Int) × List Int × List Int × List Bool × List Int × Int × List (List Int) × Unit) (n : Int) : Option ((List (List Int) × List Int × List Int × List Bool × List Int × Int × List (List Int) × Unit) × Unit) :=
 bif decide (0 ≤ n) && decide (n < f.2.1.length) then
  bif decide (0 ≤ n) && decide (n < f.2.2.1.length) then
   bif decide (0 ≤ n) && decide (n < f.2.2.2.1.length) then
    bif decide (f.2.2.2.2.1.length + [n].length < rowMax) && true then
     some ((f.1, f.2.1.set n.toNat (IntKind.i64.wrap (f.2.2.2.2.2.1 + 1)), f.2.2.1.set n.toNat (IntKind.i64.wrap (f.2.2.2.2.2.1 + 1)), f.2.2.2.1.set n.toNat true, f.2.2.2.2.1 ++ [n], IntKind.i64.wrap (f.2.2.2.2.2.1 + 1), f.2.2.2.2.2.2), ())
    else none
   else none
  else none
 else none
def fleaveL1 (f : List (List Int) × List Int × List Int × List Bool × List Int × Int × List (List Int) × Unit) (n : Int) (s1 : List Int × List Bool × List Int × Unit) (rec2 : (List Int × List Bool × List Int × Unit) → Option ((List (List Int) × List Int × List Int × List Bool × List Int × Int × List (List Int) × Unit) × Unit)) : Option ((List (List Int) × List Int × List Int × List Bool × List Int × Int × List (List Int) × Unit) × Unit) :=
 bif decide (0 ≤ IntKind.i64.wrap ((s1.2.2.1.length : Int) - 1)) && decide (IntKind.i64.wrap ((s1.2.2.1.length : Int) - 1) < s1.2.2.1.length) then
  bif decide ((0 : Int) ≤ IntKind.i64.wrap ((s1.2.2.1.length : Int) - 1)) && decide (IntKind.i64.wrap ((s1.2.2.1.length : Int) - 1) ≤ (s1.2.2.1.length : Int)) && true then
   bif decide (0 ≤ s1.2.2.1.getD (IntKind.i64.wrap ((s1.2.2.1.length : Int) - 1)).toNat 0) && decide (s1.2.2.1.getD (IntKind.i64.wrap ((s1.2.2.1.length : Int) - 1)).toNat 0 < s1.2.1.length) then
    bif decide (s1.1.length + [s1.2.2.1.getD (IntKind.i64.wrap ((s1.2.2.1.length : Int) - 1)).toNat 0].length < rowMax) && true then
     bif (s1.2.2.1.getD (IntKind.i64.wrap ((s1.2.2.1.length : Int) - 1)).toNat 0) == n then
      let r3 := sortI (s1.1 ++ [s1.2.2.1.getD (IntKind.i64.wrap ((s1.2.2.1.length : Int) - 1)).toNat 0])
      bif decide (f.2.2.2.2.2.2.1.length + [(idL r3.1)].length < rowMax) && true then
       some ((f.1, f.2.1, f.2.2.1, (s1.2.1.set (s1.2.2.1.getD (IntKind.i64.wrap ((s1.2.2.1.length : Int) - 1)).toNat 0).toNat false, ((s1.2.2.1.take (IntKind.i64.wrap ((s1.2.2.1.length : Int) - 1)).toNat).drop 0, f.2.2.2.2.2.1, f.2.2.2.2.2.2.1 ++ [(idL r3.1)], ()))), ())
      else none
     else rec2 (s1.1 ++ [s1.2.2.1.getD (IntKind.i64.wrap ((s1.2.2.1.length : Int) - 1)).toNat 0], (s1.2.1.set (s1.2.2.1.getD (IntKind.i64.wrap ((s1.2.2.1.length : Int) - 1)).toNat 0).toNat false, ((s1.2.2.1.take (IntKind.i64.wrap ((s1.2.2.1.length : Int) - 1)).toNat).drop 0, ())))
    else none
   else none
  else none
 else none
def fleaveN (fuel : Nat) (f : List (List Int) × List Int × List Int × List Bool × List Int × Int × List (List Int) × Unit) (n : Int) : Option ((List (List Int) × List Int × List Int × List Bool × List Int × Int × List (List Int) × Unit) × Unit) :=
 bif decide (0 ≤ n) && decide (n < f.2.2.1.length) then
  bif decide (0 ≤ n) && decide (n < f.2.1.length) then
   bif (f.2.2.1.getD n.toNat 0) != (f.2.1.getD n.toNat 0) then
    some (f, ())
   else loopF (fleaveL1 f n) fuel (([] : List Int), f.2.2.2.1, f.2.2.2.2.1, ())
  else none
 else none
def fleave (f : List (List Int) × List Int × List Int × List Bool × List Int × Int × List (List Int) × Unit) (n : Int) : Option ((List (List Int) × List Int × List Int × List Bool × List Int × Int × List (List Int) × Unit) × Unit) := pick fun fuel => fleaveN fuel f n
theorem fleave_ok (f : List (List Int) × List Int × List Int × List Bool × List Int × Int × List (List Int) × Unit) (n : Int) (r) (h : fleave f n = some r) : ∃ k, fleaveN k f n = some r := pick_ok h
def ffromL1 (s2 : List Tp × List Int × List Int × List Bool × List Int × List (List Int) × (List (List Int) × Unit × Unit × Unit × Unit × Int × Unit × Unit) × Unit) (rec3 : (List Tp × List Int × List Int × List Bool × List Int × List (List Int) × (List (List Int) × Unit × Unit × Unit × Unit × Int × Unit × Unit) × Unit) → Option ((List (List Int) × List Int × List Int × List Bool × List Int × Int × List (List Int) × Unit) × Unit)) (s4 : List Tp × Int × List Int × Unit) (rec5 : (List Tp × Int × List Int × Unit) → Option ((List (List Int) × List Int × List Int × List Bool × List Int × Int × List (List Int) × Unit) × Unit)) : Option ((List (List Int) × List Int × List Int × List Bool × List Int × Int × List (List Int) × Unit) × Unit) :=
 bif decide (0 ≤ (s4.1.getD s4.2.1.toNat zTp).1) && decide ((s4.1.getD s4.2.1.toNat zTp).1 < s2.2.2.2.2.2.2.1.1.length) then
  bif decide ((s4.1.getD s4.2.1.toNat zTp).2.1 < ((s2.2.2.2.2.2.2.1.1.getD (s4.1.getD s4.2.1.toNat zTp).1.toNat ([] : List Int)).length : Int)) then
   bif decide (0 ≤ (s4.1.getD s4.2.1.toNat zTp).1) && decide ((s4.1.getD s4.2.1.toNat zTp).1 < s2.2.2.2.2.2.2.1.1.length) then
    bif decide (0 ≤ (s4.1.getD s4.2.1.toNat zTp).2.1) && decide ((s4.1.getD s4.2.1.toNat zTp).2.1 < (s2.2.2.2.2.2.2.1.1.getD (s4.1.getD s4.2.1.toNat zTp).1.toNat ([] : List Int)).length) then
     (bif decide ((s2.2.2.2.2.2.2.1.1.getD (s4.1.getD s4.2.1.toNat zTp).1.toNat ([] : List Int)).getD (s4.1.getD s4.2.1.toNat zTp).2.1.toNat 0 < 0) then
      some (.inl (true, ()))
     else some (.inl (decide ((s2.2.2.2.2.2.2.1.1.getD (s4.1.getD s4.2.1.toNat zTp).1.toNat ([] : List Int)).getD (s4.1.getD s4.2.1.toNat zTp).2.1.toNat 0 ≥ (s2.2.2.2.2.2.2.1.1.length : Int)), ())) : Option ((Bool × Unit) ⊕ ((List (List Int) × List Int × List Int × List Bool × List Int × Int × List (List Int) × Unit) × Unit))).bind fun q => match q with
     | .inr r7 => some r7
     | .inl s6 =>
      bif s6.1 then
       rec5 (s4.1.set s4.2.1.toNat ((s4.1.getD s4.2.1.toNat zTp).1, IntKind.i64.wrap (((s4.1.getD s4.2.1.toNat zTp).2.1) + 1), ()), ((s4.2.1.toNat : Int), s4.2.2.1, ()))
      else bif decide (0 ≤ (s2.2.2.2.2.2.2.1.1.getD (s4.1.getD s4.2.1.toNat zTp).1.toNat ([] : List Int)).getD (s4.1.getD s4.2.1.toNat zTp).2.1.toNat 0) && decide ((s2.2.2.2.2.2.2.1.1.getD (s4.1.getD s4.2.1.toNat zTp).1.toNat ([] : List Int)).getD (s4.1.getD s4.2.1.toNat zTp).2.1.toNat 0 < s2.2.1.length) then
       bif (s2.2.1.getD ((s2.2.2.2.2.2.2.1.1.getD (s4.1.getD s4.2.1.toNat zTp).1.toNat ([] : List Int)).getD (s4.1.getD s4.2.1.toNat zTp).2.1.toNat 0).toNat 0) == 0 then
        bif decide ((s4.1.set s4.2.1.toNat ((s4.1.getD s4.2.1.toNat zTp).1, IntKind.i64.wrap (((s4.1.getD s4.2.1.toNat zTp).2.1) + 1), ())).length + [((s2.2.2.2.2.2.2.1.1.getD (s4.1.getD s4.2.1.toNat zTp).1.toNat ([] : List Int)).getD (s4.1.getD s4.2.1.toNat zTp).2.1.toNat 0, ((0 : Int), ()))].length < rowMax) && true then
         (fenterN (s2.2.2.2.2.2.2.1.1, s2.2.1, s4.2.2.1, s2.2.2.2.1, s2.2.2.2.2.1, s2.2.2.2.2.2.2.1.2.2.2.2.2.1, s2.2.2.2.2.2.1, ()) ((s2.2.2.2.2.2.2.1.1.getD (s4.1.getD s4.2.1.toNat zTp).1.toNat ([] : List Int)).getD (s4.1.getD s4.2.1.toNat zTp).2.1.toNat 0)).bind fun r8 =>
         rec3 ((s4.1.set s4.2.1.toNat ((s4.1.getD s4.2.1.toNat zTp).1, IntKind.i64.wrap (((s4.1.getD s4.2.1.toNat zTp).2.1) + 1), ())) ++ [((s2.2.2.2.2.2.2.1.1.getD (s4.1.getD s4.2.1.toNat zTp).1.toNat ([] : List Int)).getD (s4.1.getD s4.2.1.toNat zTp).2.1.toNat 0, ((0 : Int), ()))], r8.1.2.1, r8.1.2.2.1, r8.1.2.2.2.1, r8.1.2.2.2.2.1, r8.1.2.2.2.2.2.2.1, (r8.1.1, (), (), (), (), r8.1.2.2.2.2.2.1, (), ()), ())
        else none
       else bif decide (0 ≤ (s2.2.2.2.2.2.2.1.1.getD (s4.1.getD s4.2.1.toNat zTp).1.toNat ([] : List Int)).getD (s4.1.getD s4.2.1.toNat zTp).2.1.toNat 0) && decide ((s2.2.2.2.2.2.2.1.1.getD (s4.1.getD s4.2.1.toNat zTp).1.toNat ([] : List Int)).getD (s4.1.getD s4.2.1.toNat zTp).2.1.toNat 0 < s2.2.2.2.1.length) then
        bif s2.2.2.2.1.getD ((s2.2.2.2.2.2.2.1.1.getD (s4.1.getD s4.2.1.toNat zTp).1.toNat ([] : List Int)).getD (s4.1.getD s4.2.1.toNat zTp).2.1.toNat 0).toNat false then
         bif decide (0 ≤ ((s4.1.set s4.2.1.toNat ((s4.1.getD s4.2.1.toNat zTp).1, IntKind.i64.wrap (((s4.1.getD s4.2.1.toNat zTp).2.1) + 1), ())).getD s4.2.1.toNat zTp).1) && decide (((s4.1.set s4.2.1.toNat ((s4.1.getD s4.2.1.toNat zTp).1, IntKind.i64.wrap (((s4.1.getD s4.2.1.toNat zTp).2.1) + 1), ())).getD s4.2.1.toNat zTp).1 < s4.2.2.1.length) then
          bif decide (0 ≤ (s2.2.2.2.2.2.2.1.1.getD (s4.1.getD s4.2.1.toNat zTp).1.toNat ([] : List Int)).getD (s4.1.getD s4.2.1.toNat zTp).2.1.toNat 0) && decide ((s2.2.2.2.2.2.2.1.1.getD (s4.1.getD s4.2.1.toNat zTp).1.toNat ([] : List Int)).getD (s4.1.getD s4.2.1.toNat zTp).2.1.toNat 0 < s2.2.1.length) then
           bif decide (0 ≤ ((s4.1.set s4.2.1.toNat ((s4.1.getD s4.2.1.toNat zTp).1, IntKind.i64.wrap (((s4.1.getD s4.2.1.toNat zTp).2.1) + 1), ())).getD s4.2.1.toNat zTp).1) && decide (((s4.1.set s4.2.1.toNat ((s4.1.getD s4.2.1.toNat zTp).1, IntKind.i64.wrap (((s4.1.getD s4.2.1.toNat zTp).2.1) + 1), ())).getD s4.2.1.toNat zTp).1 < s4.2.2.1.length) then
            rec5 (s4.1.set s4.2.1.toNat ((s4.1.getD s4.2.1.toNat zTp).1, IntKind.i64.wrap (((s4.1.getD s4.2.1.toNat zTp).2.1) + 1), ()), ((s4.2.1.toNat : Int), s4.2.2.1.set ((s4.1.set s4.2.1.toNat ((s4.1.getD s4.2.1.toNat zTp).1, IntKind.i64.wrap (((s4.1.getD s4.2.1.toNat zTp).2.1) + 1), ())).getD s4.2.1.toNat zTp).1.toNat (min (s4.2.2.1.getD ((s4.1.set s4.2.1.toNat ((s4.1.getD s4.2.1.toNat zTp).1, IntKind.i64.wrap (((s4.1.getD s4.2.1.toNat zTp).2.1) + 1), ())).getD s4.2.1.toNat zTp).1.toNat 0) (s2.2.1.getD ((s2.2.2.2.2.2.2.1.1.getD (s4.1.getD s4.2.1.toNat zTp).1.toNat ([] : List Int)).getD (s4.1.getD s4.2.1.toNat zTp).2.1.toNat 0).toNat 0)), ()))
           else none
          else none
         else none
        else rec5 (s4.1.set s4.2.1.toNat ((s4.1.getD s4.2.1.toNat zTp).1, IntKind.i64.wrap (((s4.1.getD s4.2.1.toNat zTp).2.1) + 1), ()), ((s4.2.1.toNat : Int), s4.2.2.1, ()))
       else none
      else none
    else none
   else none
  else bif decide ((0 : Int) ≤ IntKind.i64.wrap ((s4.1.length : Int) - 1)) && decide (IntKind.i64.wrap ((s4.1.length : Int) - 1) ≤ (s4.1.length : Int)) && true then
   (fleave (s2.2.2.2.2.2.2.1.1, s2.2.1, s4.2.2.1, s2.2.2.2.1, s2.2.2.2.2.1, s2.2.2.2.2.2.2.1.2.2.2.2.2.1, s2.2.2.2.2.2.1, ()) (s4.1.getD s4.2.1.toNat zTp).1).bind fun r9 =>
   bif decide ((((s4.1.take (IntKind.i64.wrap ((s4.1.length : Int) - 1)).toNat).drop 0).length : Int) > 0) then
    bif decide (0 ≤ IntKind.i64.wrap ((((s4.1.take (IntKind.i64.wrap ((s4.1.length : Int) - 1)).toNat).drop 0).length : Int) - 1)) && decide (IntKind.i64.wrap ((((s4.1.take (IntKind.i64.wrap ((s4.1.length : Int) - 1)).toNat).drop 0).length : Int) - 1) < ((s4.1.take (IntKind.i64.wrap ((s4.1.length : Int) - 1)).toNat).drop 0).length) then
     bif decide (0 ≤ (((s4.1.take (IntKind.i64.wrap ((s4.1.length : Int) - 1)).toNat).drop 0).getD (IntKind.i64.wrap ((((s4.1.take (IntKind.i64.wrap ((s4.1.length : Int) - 1)).toNat).drop 0).length : Int) - 1)).toNat zTp).1) && decide ((((s4.1.take (IntKind.i64.wrap ((s4.1.length : Int) - 1)).toNat).drop 0).getD (IntKind.i64.wrap ((((s4.1.take (IntKind.i64.wrap ((s4.1.length : Int) - 1)).toNat).drop 0).length : Int) - 1)).toNat zTp).1 < r9.1.2.2.1.length) then
      bif decide (0 ≤ (s4.1.getD s4.2.1.toNat zTp).1) && decide ((s4.1.getD s4.2.1.toNat zTp).1 < r9.1.2.2.1.length) then
       bif decide (0 ≤ (((s4.1.take (IntKind.i64.wrap ((s4.1.length : Int) - 1)).toNat).drop 0).getD (IntKind.i64.wrap ((((s4.1.take (IntKind.i64.wrap ((s4.1.length : Int) - 1)).toNat).drop 0).length : Int) - 1)).toNat zTp).1) && decide ((((s4.1.take (IntKind.i64.wrap ((s4.1.length : Int) - 1)).toNat).drop 0).getD (IntKind.i64.wrap ((((s4.1.take (IntKind.i64.wrap ((s4.1.length : Int) - 1)).toNat).drop 0).length : Int) - 1)).toNat zTp).1 < r9.1.2.2.1.length) then
        rec3 ((s4.1.take (IntKind.i64.wrap ((s4.1.length : Int) - 1)).toNat).drop 0, r9.1.2.1, (r9.1.2.2.1.set (((s4.1.take (IntKind.i64.wrap ((s4.1.length : Int) - 1)).toNat).drop 0).getD (IntKind.i64.wrap ((((s4.1.take (IntKind.i64.wrap ((s4.1.length : Int) - 1)).toNat).drop 0).length : Int) - 1)).toNat zTp).1.toNat (min (r9.1.2.2.1.getD (((s4.1.take (IntKind.i64.wrap ((s4.1.length : Int) - 1)).toNat).drop 0).getD (IntKind.i64.wrap ((((s4.1.take (IntKind.i64.wrap ((s4.1.length : Int) - 1)).toNat).drop 0).length : Int) - 1)).toNat zTp).1.toNat 0) (r9.1.2.2.1.getD (s4.1.getD s4.2.1.toNat zTp).1.toNat 0)), r9.1.2.2.2.1, r9.1.2.2.2.2.1, r9.1.2.2.2.2.2.2.1, (r9.1.1, (), (), (), (), r9.1.2.2.2.2.2.1, (), ()), ()))
       else none
      else none
     else none
    else none
   else rec3 ((s4.1.take (IntKind.i64.wrap ((s4.1.length : Int) - 1)).toNat).drop 0, r9.1.2.1, r9.1.2.2.1, r9.1.2.2.2.1, r9.1.2.2.2.2.1, r9.1.2.2.2.2.2.2.1, (r9.1.1, (), (), (), (), r9.1.2.2.2.2.2.1, (), ()), ())
  else none
 else none
def ffromL2 (fuel : Nat) (s2 : List Tp × List Int × List Int × List Bool × List Int × List (List Int) × (List (List Int) × Unit × Unit × Unit × Unit × Int × Unit × Unit) × Unit) (rec3 : (List Tp × List Int × List Int × List Bool × List Int × List (List Int) × (List (List Int) × Unit × Unit × Unit × Unit × Int × Unit × Unit) × Unit) → Option ((List (List Int) × List Int × List Int × List Bool × List Int × Int × List (List Int) × Unit) × Unit)) : Option ((List (List Int) × List Int × List Int × List Bool × List Int × Int × List (List Int) × Unit) × Unit) :=
 bif decide ((s2.1.length : Int) > 0) then
  bif decide (0 ≤ IntKind.i64.wrap ((s2.1.length : Int) - 1)) && decide (IntKind.i64.wrap ((s2.1.length : Int) - 1) < s2.1.length) then
   loopF (ffromL1 s2 rec3) fuel (s2.1, (((IntKind.i64.wrap ((s2.1.length : Int) - 1)).toNat : Int), s2.2.2.1, ()))
  else none
 else some ((s2.2.2.2.2.2.2.1.1, s2.2.1, s2.2.2.1, s2.2.2.2.1, s2.2.2.2.2.1, s2.2.2.2.2.2.2.1.2.2.2.2.2.1, s2.2.2.2.2.2.1, ()), ())
def ffromN (fuel : Nat) (f : List (List Int) × List Int × List Int × List Bool × List Int × Int × List (List Int) × Unit) (n : Int) : Option ((List (List Int) × List Int × List Int × List Bool × List Int × Int × List (List Int) × Unit) × Unit) :=
 (fenterN f n).bind fun r1 =>
 loopF (ffromL2 fuel) fuel (([(n, ((0 : Int), ()))] : List Tp), r1.1.2.1, r1.1.2.2.1, r1.1.2.2.2.1, r1.1.2.2.2.2.1, r1.1.2.2.2.2.2.2.1, (r1.1.1, (), (), (), (), r1.1.2.2.2.2.2.1, (), ()), ())
def ffrom (f : List (List Int) × List Int × List Int × List Bool × List Int × Int × List (List Int) × Unit) (n : Int) : Option ((List (List Int) × List Int × List Int × List Bool × List Int × Int × List (List Int) × Unit) × Unit) := pick fun fuel => ffromN fuel f n
theorem ffrom_ok (f : List (List Int) × List Int × List Int × List Bool × List Int × Int × List (List Int) × Unit) (n : Int) (r) (h : ffrom f n = some r) : ∃ k, ffromN k f n = some r := pick_ok h
def clipION (s : List Int) : Option (List Int × Unit) :=
 bif decide ((s.length : Int) = (s.length : Int)) && decide ((s.length : Int) = (s.length : Int)) && true then
  some (s, ())
 else none
def clipIION (s : List (List Int)) : Option (List (List Int) × Unit) :=
 bif decide ((s.length : Int) = (s.length : Int)) && decide ((s.length : Int) = (s.length : Int)) && true then
  some (s, ())
 else none
def ringsL1 (l : List (List Int)) (s1 : Int × List Int × List Int × List Bool × List Int × List (List Int) × (List (List Int) × Unit × Unit × Unit × Unit × Int × Unit × Unit) × Unit) (rec2 : (Int × List Int × List Int × List Bool × List Int × List (List Int) × (List (List Int) × Unit × Unit × Unit × Unit × Int × Unit × Unit) × Unit) → Option (List (List Int) × Unit)) : Option (List (List Int) × Unit) :=
 bif decide (s1.1 < (l.length : Int)) then
  bif decide (0 ≤ s1.1) && decide (s1.1 < s1.2.1.length) then
   bif (s1.2.1.getD s1.1.toNat 0) == 0 then
    (ffrom (s1.2.2.2.2.2.2.1.1, s1.2.1, s1.2.2.1, s1.2.2.2.1, s1.2.2.2.2.1, s1.2.2.2.2.2.2.1.2.2.2.2.2.1, s1.2.2.2.2.2.1, ()) s1.1).bind fun r3 =>
    rec2 (IntKind.i64.wrap (s1.1 + 1), r3.1.2.1, r3.1.2.2.1, r3.1.2.2.2.1, r3.1.2.2.2.2.1, r3.1.2.2.2.2.2.2.1, (r3.1.1, (), (), (), (), r3.1.2.2.2.2.2.1, (), ()), ())
   else rec2 (IntKind.i64.wrap (s1.1 + 1), s1.2.1, s1.2.2.1, s1.2.2.2.1, s1.2.2.2.2.1, s1.2.2.2.2.2.1, s1.2.2.2.2.2.2.1, ())
  else none
 else some ((idL s1.2.2.2.2.2.1), ())
def ringsN (fuel : Nat) (l : List (List Int)) : Option (List (List Int) × Unit) :=
 bif decide (0 ≤ (l.length : Int)) && decide ((l.length : Int) ≤ (l.length : Int)) && decide ((l.length : Int) < (rowMax : Int)) then
  bif decide (0 ≤ (l.length : Int)) && decide ((l.length : Int) ≤ (l.length : Int)) && decide ((l.length : Int) < (rowMax : Int)) then
   bif decide (0 ≤ (l.length : Int)) && decide ((l.length : Int) ≤ (l.length : Int)) && decide ((l.length : Int) < (rowMax : Int)) then
    loopF (ringsL1 l) fuel ((0 : Int), (List.replicate l.length (0 : Int), (List.replicate l.length (0 : Int), List.replicate l.length false, (([] : List Int), (([] : List (List Int)), (l, (), (), (), (), ((0 : Int), (), ())), ())))))
   else none
  else none
 else none
def rings (l : List (List Int)) : Option (List (List Int) × Unit) := pick fun fuel => ringsN fuel l
theorem rings_ok (l : List (List Int)) (r) (h : rings l = some r) : ∃ k, ringsN k l = some r := pick_ok h
end
end Go.Pli

namespace Go.Pli
open Go Go.PM
abbrev Sh := Bool × List Tp × Unit
abbrev zSh : Sh := (false, [], ())
abbrev Iq := List Int × Int × Unit
abbrev zIq : Iq := ([], 0, ())
def saneP (m : Im) : Bool := ifits m && saneB m
def okSS (l : List (List Sh)) : Bool := okL l && l.all fun h => okL h && h.all fun s => okL s.2.1
def growT (_ : Unit) (n : Int) : Option (List Tp × Unit) := bif decide (0 ≤ n) && Nat.blt n.toNat 1000000000 then some ([], ()) else none
def concatT (l : List (List Tp)) : Option (List Tp × Unit) := bif Nat.blt l.flatten.length 1000000000 && okL l then some (l.flatten, ()) else none
def indexI (s : List Int) (v : Int) : Int := indexF (fun x => v == x) 0 s
def containsI (s : List Int) (v : Int) : Bool := s.contains v
def cup (m : Im) (c : Int) : Option (Int × Unit) := bif sin c (m.1.length : Int) then some (kup m.1 c, ()) else none
def fieldsB (m : Im) (c : Int) : List Tp := (((raboveB m.1 c).reverse).map fun s => (clOf m s).2.1).flatten
def cfields (m : Im) (c : Int) : Option (List Tp × Unit) := bif ifits m then some (fieldsB m c, ()) else none
def sizeB (m : Im) (c : Int) : Int := ((1 + (fieldsB m c).length : Nat) : Int)
def csize (m : Im) (c : Int) : Option (Int × Unit) := bif ifits m then some (sizeB m c, ()) else none
def localB (x : Mt) (n : Int) : Tp := bif decide (n < 0) then zTp else (x.1 ++ x.2.1).getD n.toNat zTp
def clocal (x : Mt) (n : Int) : Option (Tp × Unit) := bif okL x.1 && okL x.2.1 then some (localB x n, ()) else none
def joinB (l : List Cl) (a b : Tp) : Tp :=
 bif ksub l a b then b else bif ksub l b a then a else bif a.1 != 3 || b.1 != 3 then zTp else
 match (chain l (kup l a.2.1)).find? fun c => kbelow l b.2.1 c with
 | some c => (3, c, ())
 | none => zTp
def kjoin (l : List Cl) (a b : Tp) : Option (Tp × Unit) := some (joinB l a b, ())
def numIs (o : Int) : Bool := decide (o ≥ 7) && decide (o ≤ 17)
abbrev tI : Tp := (1, 0, ())
abbrev tA : Tp := (2, 0, ())
abbrev tN : Tp := (4, 0, ())
abbrev tR (c : Int) : Tp := (3, c, ())
abbrev Eff := List Tp × List Tp × Unit
def fplain (o : Int) : Eff × Bool × Unit :=
 bif o == 2 then (([], [tN], ()), true, ())
 else bif o == 5 then (([zTp], [], ()), true, ())
 else bif o == 20 then (([tN], [tI], ()), true, ())
 else bif o == 21 then (([tN, tN], [tI], ()), true, ())
 else bif o == 24 then (([tA, tI], [tI], ()), true, ())
 else bif o == 25 then (([tA, tI, tI], [], ()), true, ())
 else bif o == 26 then (([tA], [tI], ()), true, ())
 else bif o == 1 then (([], [tI], ()), true, ())
 else bif o == 19 then (([tI], [], ()), true, ())
 else bif o == 18 then (([], [], ()), true, ())
 else bif o == 23 then (([tI], [tA], ()), true, ())
 else bif numIs o then (([tI, tI], [tI], ()), true, ())
 else (([], [], ()), false, ())
def calledB (x : Mt) (t : List Tp) : Eff := (t ++ x.1.drop t.length, bif x.2.2.1.1 != 5 then [x.2.2.1] else [], ())
def fcalled (x : Mt) (t : List Tp) : Option (Eff × Unit) := bif okL x.1 && (okL t && decide (t.length ≤ x.1.length)) then some (calledB x t, ()) else none
def effB (m : Im) (x : Mt) (i : Ins) : Eff :=
 bif (fplain i.1).2.1 then (fplain i.1).1
 else bif i.1 == 3 then ([], [localB x i.2.1], ())
 else bif i.1 == 4 then ([localB x i.2.1], [], ())
 else bif i.1 == 22 then ([], [tR i.2.1], ())
 else bif i.1 == 27 then ([tR i.2.1], [(fieldsB m i.2.1).getD i.2.2.1.toNat zTp], ())
 else bif i.1 == 28 then ([tR i.2.1, (fieldsB m i.2.1).getD i.2.2.1.toNat zTp], [], ())
 else bif i.1 == 29 then ([], [m.2.1.getD i.2.1.toNat zTp], ())
 else bif i.1 == 30 then ([m.2.1.getD i.2.1.toNat zTp], [], ())
 else bif i.1 == 31 then calledB (mtOf m i.2.1) []
 else bif i.1 == 32 then calledB (mtOf m (cslot m i.2.1 i.2.2.1).1) [tR i.2.1]
 else bif i.1 == 34 then ([tN], [tR i.2.1], ())
 else bif i.1 == 33 then (bif x.2.2.1.1 != 5 then ([x.2.2.1], [], ()) else ([], [], ()))
 else ([], [], ())
def fof (m : Im) (i : Ins) (f : Int) : Option (Eff × Unit) := bif saneP m && (inM m f && instrB m (mtOf m f) i) then some (effB m (mtOf m f) i, ()) else none
def ffits (m : Im) (o : Int) (t w : Tp) : Bool := bif w.1 == 0 then true else bif w.1 == 4 then kisref t && (o != 34 || t.1 != 2) else ksub m.1 t w
def fnexts (i : Ins) (pc : Int) : List Int :=
 bif i.1 == 18 then [i.2.1] else bif i.1 == 19 then [IntKind.i64.wrap (pc + 1), i.2.1] else bif i.1 == 33 then [] else [IntKind.i64.wrap (pc + 1)]
def insOf (m : Im) (f pc : Int) : Ins := (mtOf m f).2.2.2.1.getD pc.toNat zIns
def codeN (m : Im) (f : Int) : Nat := (mtOf m f).2.2.2.1.length
abbrev St4 := List Tp × List Int × Int × Unit
def stepE (m : Im) (i : Ins) (e : Eff) (s : List Tp) (nx : List Int) : St4 :=
 bif decide (s.length < e.1.length) || decide (s.length - e.1.length + e.2.1.length > 8) then ([], [], 4, ())
 else bif ((s.drop (s.length - e.1.length)).zip e.1).all fun p => ffits m i.1 p.1 p.2 then (s.take (s.length - e.1.length) ++ e.2.1, nx, 0, ())
 else ([], [], 4, ())
def stepB (m : Im) (f pc : Int) (s : List Tp) : St4 :=
 bif !(inM m f && sin pc (codeN m f : Int)) then ([], [], 1, ())
 else bif (fnexts (insOf m f pc) pc).contains (codeN m f : Int) then ([], [], 4, ())
 else bif (insOf m f pc).1 == 6 then (bif decide (s.length = 0) || decide (s.length ≥ 8) then ([], [], 4, ()) else (s ++ s.drop (s.length - 1), fnexts (insOf m f pc) pc, 0, ()))
 else stepE m (insOf m f pc) (effB m (mtOf m f) (insOf m f pc)) s (fnexts (insOf m f pc) pc)
def fstep (m : Im) (f pc : Int) (s : List Tp) : Option St4 := bif saneP m && okL s then some (stepB m f pc s) else none
def mergeO (l : List Cl) (a s : List Tp) : List Tp := (a.zip s).map fun p => joinB l p.1 p.2
def mergeB (l : List Cl) (o : Sh) (s : List Tp) : Sh × Bool × Bool × Unit :=
 bif !o.1 then ((true, s, ()), true, true, ())
 else bif decide (o.2.1.length ≠ s.length) then (o, false, false, ())
 else bif (mergeO l o.2.1 s).any fun t => t.1 == 0 then (o, false, false, ())
 else ((true, mergeO l o.2.1 s, ()), !(mergeO l o.2.1 s == o.2.1), true, ())
def tmerge (m : Im) (o : Sh) (s : List Tp) : Option (Sh × Bool × Bool × Unit) := bif okL s then some (mergeB m.1 o s) else none
def oneF (l : List Cl) (a : List Tp) : List Int → List Sh → List Bool → Bool × List Sh × List Bool × Unit
 | [], h, q => (true, h, q, ())
 | to :: r, h, q =>
  bif !(mergeB l (h.getD to.toNat zSh) a).2.2.1 then (false, h, q, ())
  else bif (mergeB l (h.getD to.toNat zSh) a).2.1 then oneF l a r (h.set to.toNat (mergeB l (h.getD to.toNat zSh) a).1) (q.set to.toNat true)
  else oneF l a r h q
def toneB (m : Im) (f pc : Int) (h : List Sh) (q : List Bool) : Bool × List Sh × List Bool × Unit :=
 bif (stepB m f pc (h.getD pc.toNat zSh).2.1).2.2.1 != 0 then (false, h, q, ())
 else oneF m.1 (stepB m f pc (h.getD pc.toNat zSh).2.1).1 (stepB m f pc (h.getD pc.toNat zSh).2.1).2.1 h q
def oneP (m : Im) (f pc : Int) (h : List Sh) (q : List Bool) : Bool :=
 saneP m && (inM m f && (sin pc (codeN m f : Int) && (decide (h.length = codeN m f) && (decide (q.length = codeN m f) && h.all fun s => okL s.2.1))))
def tone (m : Im) (f pc : Int) (h : List Sh) (q : List Bool) : Option (Bool × List Sh × List Bool × Unit) := bif oneP m f pc h q then some (toneB m f pc h q) else none
def walkM (m : Im) (f : Int) : Nat → List Sh → List Bool → Option (List Sh × Int × Int × Unit)
 | 0, _, _ => none
 | n + 1, h, q => bif q.any id then (tone m f (q.findIdx id : Int) h (q.set (q.findIdx id) false)).bind fun r =>
   bif !r.1 then some ([], (q.findIdx id : Int), 4, ()) else walkM m f n r.2.1 r.2.2.1
  else some (h, 0, 0, ())
def tmethod (m : Im) (f : Int) : Option (List Sh × Int × Int × Unit) :=
 bif saneP m && inM m f then walkM m f (100 * codeN m f + 2) ((List.replicate (codeN m f) zSh).set 0 (true, [], ())) ((List.replicate (codeN m f) false).set 0 true) else none
def checkM (m : Im) : List Int → List (List Sh) → Option (List (List Sh) × Int × Int × Int × Unit)
 | [], out => some (out, 0, 0, 0, ())
 | f :: l, out => (tmethod m f).bind fun r => bif r.2.2.1 != 0 then some ([], f, r.2.1, r.2.2.1, ()) else checkM m l (out ++ [r.1])
def tcheck (m : Im) : Option (List (List Sh) × Int × Int × Int × Unit) := bif saneP m then checkM m (ints m.2.2.2.1.length) [] else none
def maxL (l : List Int) : Int := l.foldl max 0
def deepB (l : List (List Sh)) (f : Int) : Int := bif sin f (l.length : Int) then maxL ((l.getD f.toNat []).map fun s => (s.2.1.length : Int)) else 0
def tdeep (l : List (List Sh)) (f : Int) : Option (Int × Unit) := bif okSS l then some (deepB l f, ()) else none
def frameB (m : Im) (l : List (List Sh)) (f : Int) : Int := bif inM m f then ((3 + (mtOf m f).1.length + (mtOf m f).2.1.length : Nat) : Int) + deepB l f else 0
def cyc1 (to : Int) (part : List Int) : Bool := part.contains to
def indexCyc (l : List Int) (c : List Int × Unit) : Int := indexF (fun x => cyc1 x c.1) 0 l
def containsCyc (l : List Int) (c : List Int × Unit) : Bool := l.any fun x => cyc1 x c.1
def cyclicB (l : List (List Int)) (part : List Int) : Bool := part.any fun k => sin k (l.length : Int) && (l.getD k.toNat []).any fun to => part.contains to
def cyclic (l : List (List Int)) (part : List Int) : Option (Bool × Unit) := bif okL part then some (cyclicB l part, ()) else none
def beyondF (part out : List Int) : List Int → Int → Int
 | [], b => b
 | to :: r, b => beyondF part out r (bif !part.contains to && decide (to < (out.length : Int)) then max b (out.getD to.toNat 0) else b)
def partF (m : Im) (l : List (List Sh)) (ed : List (List Int)) (part out : List Int) (cyc : Bool) : List Int → Int → Int → Option (Int × Int)
 | [], a, b => some (a, b)
 | f :: r, a, b => bif decide ((bif cyc then (mtOf m f).2.2.2.2.1 else 1) < 1) then none
  else partF m l ed part out cyc r (IntKind.i64.wrap (a + IntKind.i64.wrap ((bif cyc then (mtOf m f).2.2.2.2.1 else 1) * frameB m l f))) (beyondF part out (ed.getD f.toNat []) b)
def setF (v : Int) : List Int → List Int → List Int
 | [], out => out
 | f :: r, out => setF v r (out.set f.toNat v)
def ringsF (m : Im) (l : List (List Sh)) (ed : List (List Int)) : List (List Int) → List Int → List Int × Int × Unit
 | [], out => (out, 0, ())
 | part :: ps, out => match partF m l ed part out (cyclicB ed part) part 0 0 with
  | none => ([], 5, ())
  | some a => ringsF m l ed ps (setF (IntKind.i64.wrap (a.1 + a.2)) part out)
def ofAll (m : Im) : List (List Int) := (ints m.2.2.2.1.length).map (ofB m)
def edOk (m : Im) : Bool := (ofAll m).all fun e => okL e && e.all (inM m)
noncomputable def dbound (m : Im) (l : List (List Sh)) : Option (List Int × Int × Unit) := bif saneP m && (okSS l && edOk m) then (rings (ofAll m)).bind fun r => bif okL r.1 && r.1.all (fun p => okL p && p.all (inM m)) then some (ringsF m l (ofAll m) r.1 (List.replicate m.2.2.2.1.length 0)) else none else none
def inU (x : Int) : Bool := decide (0 ≤ x) && decide (x ≤ 18446744073709551615)
def mul64 (x y : Int) : Option (Int × Int × Unit) := bif inU x && inU y then some (x * y / 18446744073709551616, x * y % 18446744073709551616, ()) else none
abbrev Sure := Int × Bool × Unit
def lof (n : Int) : Sure := (n, decide (n > -4611686018427387904) && decide (n < 4611686018427387904), ())
def lsize (n : Int) : Int := bif decide (n < 0) then IntKind.u64.wrap (IntKind.i64.wrap (0 - n)) else IntKind.u64.wrap n
def plusB (a b : Sure) : Sure := bif a.2.1 && b.2.1 then lof (IntKind.i64.wrap (a.1 + b.1)) else (0, false, ())
def lplus (a b : Sure) : Option (Sure × Unit) := some (plusB a b, ())
def timesB (a b : Sure) : Sure :=
 bif a.2.1 && b.2.1 then (bif decide (lsize a.1 * lsize b.1 / 18446744073709551616 ≠ 0) || decide (lsize a.1 * lsize b.1 % 18446744073709551616 ≥ 4611686018427387904) then (0, false, ()) else lof (IntKind.i64.wrap (a.1 * b.1))) else (0, false, ())
def ltimes (a b : Sure) : Option (Sure × Unit) := some (timesB a b, ())
def sumS : List (Int × Int) → Sure → Sure
 | [], a => a
 | p :: r, a => sumS r (plusB a (timesB (lof p.1) (lof p.2)))
def holdsE (most : Int) (s : Sure) : Bool × Int × Unit := bif !s.2.1 then (false, 14, ()) else (decide (s.1 ≤ most), 0, ())
def holdsB (q : Iq) (v : List Int) : Bool × Int × Unit := bif decide (q.1.length ≠ v.length) then (false, 14, ()) else holdsE q.2.1 (sumS (q.1.zip v) (lof 0))
def lholds (q : Iq) (v : List Int) : Option (Bool × Int × Unit) := bif okL q.1 then some (holdsB q v) else none
def shapeB (l : List (List Sh)) (f pc : Int) : Sh := (l.getD f.toNat []).getD pc.toNat zSh
def pshape (l : List (List Sh)) (f pc : Int) : Option (Sh × Unit) := bif decide (0 ≤ f) && decide (0 ≤ pc) then some (shapeB l f pc, ()) else none
def potOf (m : Im) (f : Int) : Int := (mtOf m f).2.2.2.2.2.1
def costB (m : Im) (i : Ins) : Int :=
 bif i.1 == 22 then sizeB m i.2.1 else bif i.1 == 23 then IntKind.i64.wrap (1 + max 0 (min i.2.1 255)) else maxL (((targetsB m i).filter (inM m)).map (potOf m))
def pcost (m : Im) (i : Ins) : Option (Int × Unit) := bif ifits m then some (costB m i, ()) else none
def addA (z : List Int) (a d : Int) : List Int := bif decide (a ≥ 0) then z.set a.toNat (IntKind.i64.wrap (z.getD a.toNat 0 + d)) else z
def rowB (n a b c : Int) : Iq := (addA (addA (List.replicate n.toNat 0) a (-1)) b 1, c, ())
def prow (n a b c : Int) : Option (Iq × Unit) := bif decide (0 ≤ n) && (Nat.blt n.toNat 1000000 && (decide (a < n) && decide (b < n))) then some (rowB n a b c, ()) else none
def ruleAt (m : Im) (l : List (List Sh)) (f pc : Int) : List Iq :=
 bif !(shapeB l f pc).1 then [] else
 bif (stepB m f pc (shapeB l f pc).2.1).2.2.1 != 0 then [] else
 (bif decide ((stepB m f pc (shapeB l f pc).2.1).2.1.length = 0) then [rowB (codeN m f : Int) pc (-1) 0] else []) ++
 (stepB m f pc (shapeB l f pc).2.1).2.1.map fun to => rowB (codeN m f : Int) pc to (IntKind.i64.wrap (0 - costB m (insOf m f pc)))
def rulesB (m : Im) (l : List (List Sh)) (f : Int) : List Iq :=
 bif inM m f then rowB (codeN m f : Int) (-1) 0 (potOf m f) :: ((List.range (codeN m f)).map fun k : Nat => ruleAt m l f (k : Int)).flatten else []
def prules (m : Im) (l : List (List Sh)) (f : Int) : Option (List Iq × Unit) := bif saneP m && okSS l then some (rulesB m l f, ()) else none
def negB (n : Int) : Bool := decide (n < 0)
def indexNeg (l : List Int) (_ : Unit) : Int := indexF negB 0 l
def containsNeg (l : List Int) (_ : Unit) : Bool := l.any negB
def phiOf (m : Im) (f : Int) : List Int := (mtOf m f).2.2.2.2.2.2.1
def goodR (m : Im) (f : Int) (q : Iq) : Bool := decide ((holdsB q (phiOf m f)).2.1 = 0) && (holdsB q (phiOf m f)).1
def potM (m : Im) (l : List (List Sh)) : List Int → Int × Int × Unit
 | [] => (0, 0, ())
 | f :: r => bif (rulesB m l f).all (goodR m f) then (bif (phiOf m f).any negB then (f, 6, ()) else potM m l r) else (f, 6, ())
def pcheck (m : Im) (l : List (List Sh)) : Option (Int × Int × Unit) := bif saneP m && okSS l then some (potM m l (ints m.2.2.2.1.length)) else none
def needF (m : Im) (bd : List Int) : List Int → Int → Int → Int × Int
 | [], s, h => (s, h)
 | f :: r, s, h => bif decide (f ≥ 0) && decide (f < (bd.length : Int)) then needF m bd r (max s (bd.getD f.toNat 0)) (max h (potOf m f)) else needF m bd r s h
def needB (m : Im) (r : List Int × Int × Unit) : Int × Int × Int × Unit :=
 bif r.2.1 != 0 then (0, 0, r.2.1, ()) else ((needF m r.1 m.2.2.2.2.1 0 0).1, IntKind.i64.wrap ((m.2.1.length : Int) + (needF m r.1 m.2.2.2.2.1 0 0).2), 0, ())
noncomputable def aneeds (m : Im) (l : List (List Sh)) : Option (Int × Int × Int × Unit) := bif saneP m then (dbound m l).bind fun r => some (needB m r) else none
def r14costB (m : Im) (i : Ins) : Int := bif i.1 == 22 then sizeB m i.2.1 else bif i.1 == 23 then IntKind.i64.wrap (1 + i.2.1) else maxL ((targetsB m i).map (potOf m))
def r14cost (m : Im) (i : Ins) : Option (Int × Unit) := bif ifits m && (targetsB m i).all (inM m) then some (r14costB m i, ()) else none
def r8same (a b : List (List Sh)) : Option (Bool × Unit) := bif okSS a && okSS b then some (a == b, ()) else none
def small16 (m : Im) : Bool := decide (total5 m ≤ 100) && m.2.2.2.1.all fun x => decide (x.1.length + x.2.1.length + x.2.2.2.1.length + x.2.2.2.2.2.2.1.length ≤ 300)
end Go.Pli

namespace Go.Pli
open Go Go.PM
noncomputable section
def tdeepL1 (l : List (List Sh)) (f : Int) (s1 : Int × Int × Unit) (rec2 : (Int × Int × Unit) → Option (Int × Unit)) : Option (Int × Unit) :=
 bif decide (s1.2.1 < ((l.getD f.toNat ([] : List Sh)).length : Int)) then
  bif decide (0 ≤ s1.2.1) && decide (s1.2.1 < (l.getD f.toNat ([] : List Sh)).length) then
   rec2 (max s1.1 (((l.getD f.toNat ([] : List Sh)).getD s1.2.1.toNat zSh).2.1.length : Int), IntKind.i64.wrap (s1.2.1 + 1), ())
  else none
 else some (s1.1, ())
def tdeepN (fuel : Nat) (l : List (List Sh)) (f : Int) : Option (Int × Unit) :=
 bif decide (f < 0) then
  some ((0 : Int), ())
 else bif decide (f ≥ (l.length : Int)) then
  some ((0 : Int), ())
 else bif decide (0 ≤ f) && decide (f < l.length) then
  loopF (tdeepL1 l f) fuel ((0 : Int), ((0 : Int), ()))
 else none
def dframeN (m : Im) (l : List (List Sh)) (f : Int) : Option (Int × Unit) :=
 bif decide (f < 0) then
  some ((0 : Int), ())
 else bif decide (f ≥ (m.2.2.2.1.length : Int)) then
  some ((0 : Int), ())
 else bif decide (0 ≤ f) && decide (f < m.2.2.2.1.length) then
  (tdeep l f).bind fun r1 =>
  some (IntKind.i64.wrap ((IntKind.i64.wrap ((IntKind.i64.wrap ((3 : Int) + ((m.2.2.2.1.getD f.toNat zMt).1.length : Int))) + ((m.2.2.2.1.getD f.toNat zMt).2.1.length : Int))) + r1.1), ())
 else none
def growTN (_s : Unit) (n : Int) : Option (List Tp × Unit) :=
 bif decide (n < 0) then
  none
 else bif decide (IntKind.i64.wrap (n - (IntKind.i64.wrap ((0 : Int) - (([] : List Tp).length : Int)))) > 0) then
  bif decide (0 < IntKind.i64.wrap (n - (IntKind.i64.wrap ((0 : Int) - (([] : List Tp).length : Int))))) && decide (IntKind.i64.wrap (n - (IntKind.i64.wrap ((0 : Int) - (([] : List Tp).length : Int)))) < (rowMax : Int)) then
   bif decide ((0 : Int) ≤ (([] : List Tp).length : Int)) && decide ((([] : List Tp).length : Int) ≤ ((List.replicate (IntKind.i64.wrap (n - (IntKind.i64.wrap ((0 : Int) - (([] : List Tp).length : Int))))).toNat zTp).length : Int)) && true then
    some (((List.replicate (IntKind.i64.wrap (n - (IntKind.i64.wrap ((0 : Int) - (([] : List Tp).length : Int))))).toNat zTp).take (([] : List Tp).length : Int).toNat).drop 0, ())
   else none
  else none
 else some (([] : List Tp), ())
def concatTL1 (l : List (List Tp)) (s4 : List Tp × Int × Unit) (rec5 : (List Tp × Int × Unit) → Option (List Tp × Unit)) : Option (List Tp × Unit) :=
 bif decide (s4.2.1 < (l.length : Int)) then
  bif decide (0 ≤ s4.2.1) && decide (s4.2.1 < l.length) then
   bif decide (s4.1.length + (l.getD s4.2.1.toNat ([] : List Tp)).length < rowMax) && true then
    rec5 (s4.1 ++ (l.getD s4.2.1.toNat ([] : List Tp)), IntKind.i64.wrap (s4.2.1 + 1), ())
   else none
  else none
 else some (s4.1, ())
def concatTL2 (l : List (List Tp)) (fuel : Nat) (s1 : Int × Int × Unit) (rec2 : (Int × Int × Unit) → Option (List Tp × Unit)) : Option (List Tp × Unit) :=
 bif decide (s1.2.1 < (l.length : Int)) then
  bif decide (0 ≤ s1.2.1) && decide (s1.2.1 < l.length) then
   bif decide (IntKind.i64.wrap (s1.1 + ((l.getD s1.2.1.toNat ([] : List Tp)).length : Int)) < 0) then
    none
   else rec2 (IntKind.i64.wrap (s1.1 + ((l.getD s1.2.1.toNat ([] : List Tp)).length : Int)), IntKind.i64.wrap (s1.2.1 + 1), ())
  else none
 else 
  (growT () s1.1).bind fun r3 =>
  loopF (concatTL1 l) fuel (r3.1, ((0 : Int), ()))
def concatTN (fuel : Nat) (l : List (List Tp)) : Option (List Tp × Unit) :=
 loopF (concatTL2 l fuel) fuel ((0 : Int), ((0 : Int), ()))
def indexILen (s : List Int) (_v : Int) : Prop := (s.length ≤ lenMax ∧ ∀ x1 : Int, x1 ∈ s → True) ∧ True ∧ True
def indexIL1 (s : List Int) (v : Int) (s1 : Int × Unit) (rec2 : (Int × Unit) → Option (Int × Unit)) : Option (Int × Unit) :=
 bif decide (s1.1 < (s.length : Int)) then
  bif decide (0 ≤ s1.1) && decide (s1.1 < s.length) then
   bif v == (s.getD s1.1.toNat 0) then
    some (s1.1, ())
   else rec2 (IntKind.i64.wrap (s1.1 + 1), ())
  else none
 else some ((-1 : Int), ())
def indexIN (fuel : Nat) (s : List Int) (v : Int) : Option (Int × Unit) :=
 loopF (indexIL1 s v) fuel ((0 : Int), ())
def containsILen (s : List Int) (_v : Int) : Prop := (s.length ≤ lenMax ∧ ∀ x1 : Int, x1 ∈ s → True) ∧ True ∧ True
def containsIN (s : List Int) (v : Int) : Option (Bool × Unit) :=
 some (decide ((indexI s v) ≥ 0), ())
def clipQN (s : List Iq) : Option (List Iq × Unit) :=
 bif decide ((s.length : Int) = (s.length : Int)) && decide ((s.length : Int) = (s.length : Int)) then
  some (s, ())
 else none
def clipSSN (s : List (List Sh)) : Option (List (List Sh) × Unit) :=
 bif decide ((s.length : Int) = (s.length : Int)) && decide ((s.length : Int) = (s.length : Int)) then
  some (s, ())
 else none
def cupN (m : Im) (c : Int) : Option (Int × Unit) :=
 bif decide (0 ≤ c) && decide (c < m.1.length) then
  bif decide ((m.1.getD c.toNat zCl).1 ≥ c) then
   some ((-1 : Int), ())
  else bif decide (0 ≤ c) && decide (c < m.1.length) then
   some ((m.1.getD c.toNat zCl).1, ())
  else none
 else none
def cfieldsL1 (m : Im) (s1 : Int × List Tp × Unit) (rec2 : (Int × List Tp × Unit) → Option (List Tp × Unit)) : Option (List Tp × Unit) :=
 bif decide (s1.1 ≥ 0) then
  bif decide (0 ≤ s1.1) && decide (s1.1 < m.1.length) then
   (concatT [(m.1.getD s1.1.toNat zCl).2.1, s1.2.1]).bind fun r3 =>
   (cup m s1.1).bind fun r4 =>
   rec2 (r4.1, r3.1, ())
  else none
 else some (s1.2.1, ())
def cfieldsN (fuel : Nat) (m : Im) (c : Int) : Option (List Tp × Unit) :=
 bif decide (c ≥ (m.1.length : Int)) then
  some (([] : List Tp), ())
 else loopF (cfieldsL1 m) fuel (c, (([] : List Tp), ()))
def csizeN (m : Im) (c : Int) : Option (Int × Unit) :=
 (cfields m c).bind fun r1 =>
 some (IntKind.i64.wrap ((1 : Int) + (r1.1.length : Int)), ())
def clocalN (x : Mt) (n : Int) : Option (Tp × Unit) :=
 bif decide (n < 0) then
  some (((0 : Int), ((0 : Int), ())), ())
 else bif decide (n ≥ IntKind.i64.wrap ((x.1.length : Int) + (x.2.1.length : Int))) then
  some (((0 : Int), ((0 : Int), ())), ())
 else bif decide (n < (x.1.length : Int)) then
  bif decide (0 ≤ n) && decide (n < x.1.length) then
   some (x.1.getD n.toNat zTp, ())
  else none
 else bif decide (0 ≤ IntKind.i64.wrap (n - (x.1.length : Int))) && decide (IntKind.i64.wrap (n - (x.1.length : Int)) < x.2.1.length) then
  some (x.2.1.getD (IntKind.i64.wrap (n - (x.1.length : Int))).toNat zTp, ())
 else none
def kjoinL1 (l : List Cl) (b : Tp) (s1 : Int × Unit) (rec2 : (Int × Unit) → Option (Tp × Unit)) : Option (Tp × Unit) :=
 bif decide (s1.1 ≥ 0) then
  bif (kbelow l b.2.1 s1.1) then
   some (((3 : Int), s1.1, ()), ())
  else rec2 ((kup l s1.1), ())
 else some (((0 : Int), ((0 : Int), ())), ())
def kjoinN (fuel : Nat) (l : List Cl) (a : Tp) (b : Tp) : Option (Tp × Unit) :=
 bif (ksub l a b) then
  some (b, ())
 else bif (ksub l b a) then
  some (a, ())
 else bif a.1 != 3 then
  some (((0 : Int), ((0 : Int), ())), ())
 else bif b.1 != 3 then
  some (((0 : Int), ((0 : Int), ())), ())
 else loopF (kjoinL1 l b) fuel ((kup l a.2.1), ())
def numIsN (o : Int) : Option (Bool × Unit) :=
 bif decide (o ≥ 7) then
  some (decide (o ≤ 17), ())
 else some (false, ())
def fnumberN : Tp :=
 ((1 : Int), ((0 : Int), ()))
def farrayN : Tp :=
 ((2 : Int), ((0 : Int), ()))
def fobjectN (c : Int) : Tp :=
 ((3 : Int), c, ())
def fplain1N (t : List Tp) : List Tp :=
 t
def fof1N (t : Tp) : List Tp :=
 [t]
def fcalledN (x : Mt) (t : List Tp) : Option ((List Tp × List Tp × Unit) × Unit) :=
 bif decide (0 ≤ (t.length : Int)) && decide ((t.length : Int) ≤ (x.1.length : Int)) && decide ((x.1.length : Int) ≤ (x.1.length : Int)) then
  (concatT [t, (x.1.take x.1.length).drop t.length]).bind fun r1 =>
  bif x.2.2.1.1 != 5 then
   some ((r1.1, [x.2.2.1], ()), ())
  else some ((r1.1, (([] : List Tp), ())), ())
 else none
def fplainN (o : Int) : Option ((List Tp × List Tp × Unit) × Bool × Unit) :=
 bif o == 2 then
  some ((([] : List Tp), ((fplain1N [((4 : Int), ((0 : Int), ()))]), ())), true, ())
 else bif o == 5 then
  some (((fplain1N [((0 : Int), ((0 : Int), ()))]), (([] : List Tp), ())), true, ())
 else bif o == 20 then
  some (((fplain1N [((4 : Int), ((0 : Int), ()))]), (fplain1N [fnumberN]), ()), true, ())
 else bif o == 21 then
  some (((fplain1N [((4 : Int), ((0 : Int), ())), ((4 : Int), ((0 : Int), ()))]), (fplain1N [fnumberN]), ()), true, ())
 else bif o == 24 then
  some (((fplain1N [farrayN, fnumberN]), (fplain1N [fnumberN]), ()), true, ())
 else bif o == 25 then
  some (((fplain1N [farrayN, fnumberN, fnumberN]), (([] : List Tp), ())), true, ())
 else bif o == 26 then
  some (((fplain1N [farrayN]), (fplain1N [fnumberN]), ()), true, ())
 else bif o == 1 then
  some ((([] : List Tp), (fplain1N [fnumberN]), ()), true, ())
 else bif o == 19 then
  some (((fplain1N [fnumberN]), (([] : List Tp), ())), true, ())
 else bif o == 18 then
  some ((([] : List Tp), (([] : List Tp), ())), true, ())
 else bif o == 23 then
  some (((fplain1N [fnumberN]), (fplain1N [farrayN]), ()), true, ())
 else bif (numIs o) then
  some (((fplain1N [fnumberN, fnumberN]), (fplain1N [fnumberN]), ()), true, ())
 else some ((([] : List Tp), (([] : List Tp), ())), false, ())
def fofN (m : Im) (i : Ins) (f : Int) : Option ((List Tp × List Tp × Unit) × Unit) :=
 bif decide (0 ≤ f) && decide (f < m.2.2.2.1.length) then
  let r1 := fplain i.1
  bif r1.2.1 then
   some (r1.1, ())
  else bif i.1 == 3 then
   (clocal (m.2.2.2.1.getD f.toNat zMt) i.2.1).bind fun r2 =>
   some ((([] : List Tp), (fof1N r2.1), ()), ())
  else bif i.1 == 4 then
   (clocal (m.2.2.2.1.getD f.toNat zMt) i.2.1).bind fun r3 =>
   some (((fof1N r3.1), (([] : List Tp), ())), ())
  else bif i.1 == 22 then
   some ((([] : List Tp), (fof1N (fobjectN i.2.1)), ()), ())
  else bif i.1 == 27 then
   (cfields m i.2.1).bind fun r4 =>
   bif decide (0 ≤ i.2.2.1) && decide (i.2.2.1 < r4.1.length) then
    some (((fof1N (fobjectN i.2.1)), (fof1N (r4.1.getD i.2.2.1.toNat zTp)), ()), ())
   else none
  else bif i.1 == 28 then
   (cfields m i.2.1).bind fun r5 =>
   bif decide (0 ≤ i.2.2.1) && decide (i.2.2.1 < r5.1.length) then
    some (([(fobjectN i.2.1), r5.1.getD i.2.2.1.toNat zTp], (([] : List Tp), ())), ())
   else none
  else bif i.1 == 29 then
   bif decide (0 ≤ i.2.1) && decide (i.2.1 < m.2.1.length) then
    some ((([] : List Tp), (fof1N (m.2.1.getD i.2.1.toNat zTp)), ()), ())
   else none
  else bif i.1 == 30 then
   bif decide (0 ≤ i.2.1) && decide (i.2.1 < m.2.1.length) then
    some (((fof1N (m.2.1.getD i.2.1.toNat zTp)), (([] : List Tp), ())), ())
   else none
  else bif i.1 == 31 then
   bif decide (0 ≤ i.2.1) && decide (i.2.1 < m.2.2.2.1.length) then
    (fcalled (m.2.2.2.1.getD i.2.1.toNat zMt) ([] : List Tp)).bind fun r6 =>
    some (r6.1, ())
   else none
  else bif i.1 == 32 then
   let r7 := cslot m i.2.1 i.2.2.1
   bif decide (0 ≤ r7.1) && decide (r7.1 < m.2.2.2.1.length) then
    (fcalled (m.2.2.2.1.getD r7.1.toNat zMt) (fof1N (fobjectN i.2.1))).bind fun r8 =>
    some (r8.1, ())
   else none
  else bif i.1 == 34 then
   some (((fof1N ((4 : Int), ((0 : Int), ()))), (fof1N (fobjectN i.2.1)), ()), ())
  else bif i.1 == 33 then
   bif ((m.2.2.2.1.getD f.toNat zMt).2.2.1.1) != 5 then
    some (((fof1N (m.2.2.2.1.getD f.toNat zMt).2.2.1), (([] : List Tp), ())), ())
   else some ((([] : List Tp), (([] : List Tp), ())), ())
  else some ((([] : List Tp), (([] : List Tp), ())), ())
 else none
def ffitsN (m : Im) (o : Int) (t : Tp) (w : Tp) : Option (Bool × Unit) :=
 bif w.1 == 0 then
  some (true, ())
 else bif w.1 == 4 then
  bif (kisref t) then
   bif o != 34 then
    some (true, ())
   else some (t.1 != 2, ())
  else some (false, ())
 else some ((ksub m.1 t w), ())
def fnextsN (i : Ins) (pc : Int) : Option (List Int × Unit) :=
 bif i.1 == 18 then
  some ([i.2.1], ())
 else bif i.1 == 19 then
  some ([IntKind.i64.wrap (pc + 1), i.2.1], ())
 else bif i.1 == 33 then
  some (([] : List Int), ())
 else some ([IntKind.i64.wrap (pc + 1)], ())
def fstepL1 (m : Im) (f : Int) (pc : Int) (s : List Tp) (r2 : (List Tp × List Tp × Unit) × Unit) (s3 : List Int × Int × Unit) (rec4 : (List Int × Int × Unit) → Option (List Tp × List Int × Int × Unit)) : Option (List Tp × List Int × Int × Unit) :=
 bif decide (s3.2.1 < (r2.1.1.length : Int)) then
  bif decide (0 ≤ s3.2.1) && decide (s3.2.1 < r2.1.1.length) then
   bif decide (0 ≤ IntKind.i64.wrap ((IntKind.i64.wrap ((s.length : Int) - (r2.1.1.length : Int))) + s3.2.1)) && decide (IntKind.i64.wrap ((IntKind.i64.wrap ((s.length : Int) - (r2.1.1.length : Int))) + s3.2.1) < s.length) then
    bif !(ffits m ((m.2.2.2.1.getD f.toNat zMt).2.2.2.1.getD pc.toNat zIns).1 (s.getD (IntKind.i64.wrap ((IntKind.i64.wrap ((s.length : Int) - (r2.1.1.length : Int))) + s3.2.1)).toNat zTp) (r2.1.1.getD s3.2.1.toNat zTp)) then
     some (([] : List Tp), (([] : List Int), ((4 : Int), ())))
    else rec4 (s3.1, IntKind.i64.wrap (s3.2.1 + 1), ())
   else none
  else none
 else bif decide ((0 : Int) ≤ IntKind.i64.wrap ((s.length : Int) - (r2.1.1.length : Int))) && decide (IntKind.i64.wrap ((s.length : Int) - (r2.1.1.length : Int)) ≤ (s.length : Int)) then
  (concatT [(s.take (IntKind.i64.wrap ((s.length : Int) - (r2.1.1.length : Int))).toNat).drop 0, r2.1.2.1]).bind fun r5 =>
  some (r5.1, s3.1, ((0 : Int), ()))
 else none
def fstepN (fuel : Nat) (m : Im) (f : Int) (pc : Int) (s : List Tp) : Option (List Tp × List Int × Int × Unit) :=
 bif decide (f < 0) then
  some (([] : List Tp), (([] : List Int), ((1 : Int), ())))
 else bif decide (f ≥ (m.2.2.2.1.length : Int)) then
  some (([] : List Tp), (([] : List Int), ((1 : Int), ())))
 else bif decide (pc < 0) then
  some (([] : List Tp), (([] : List Int), ((1 : Int), ())))
 else bif decide (0 ≤ f) && decide (f < m.2.2.2.1.length) then
  bif decide (pc ≥ ((m.2.2.2.1.getD f.toNat zMt).2.2.2.1.length : Int)) then
   some (([] : List Tp), (([] : List Int), ((1 : Int), ())))
  else bif decide (0 ≤ f) && decide (f < m.2.2.2.1.length) then
   bif decide (0 ≤ pc) && decide (pc < (m.2.2.2.1.getD f.toNat zMt).2.2.2.1.length) then
    bif decide (0 ≤ f) && decide (f < m.2.2.2.1.length) then
     bif (containsI (fnexts ((m.2.2.2.1.getD f.toNat zMt).2.2.2.1.getD pc.toNat zIns) pc) ((m.2.2.2.1.getD f.toNat zMt).2.2.2.1.length : Int)) then
      some (([] : List Tp), (([] : List Int), ((4 : Int), ())))
     else bif (((m.2.2.2.1.getD f.toNat zMt).2.2.2.1.getD pc.toNat zIns).1) == 6 then
      bif (s.length : Int) == 0 then
       some (([] : List Tp), (([] : List Int), ((4 : Int), ())))
      else bif decide ((s.length : Int) ≥ 8) then
       some (([] : List Tp), (([] : List Int), ((4 : Int), ())))
      else bif decide (0 ≤ IntKind.i64.wrap ((s.length : Int) - 1)) && decide (IntKind.i64.wrap ((s.length : Int) - 1) ≤ (s.length : Int)) && decide ((s.length : Int) ≤ (s.length : Int)) then
       (concatT [s, (s.take s.length).drop (IntKind.i64.wrap ((s.length : Int) - 1)).toNat]).bind fun r1 =>
       some (r1.1, (fnexts ((m.2.2.2.1.getD f.toNat zMt).2.2.2.1.getD pc.toNat zIns) pc), ((0 : Int), ()))
      else none
     else 
      (fof m ((m.2.2.2.1.getD f.toNat zMt).2.2.2.1.getD pc.toNat zIns) f).bind fun r2 =>
      bif decide (IntKind.i64.wrap ((s.length : Int) - (r2.1.1.length : Int)) < 0) then
       some (([] : List Tp), (([] : List Int), ((4 : Int), ())))
      else bif decide (IntKind.i64.wrap ((IntKind.i64.wrap ((s.length : Int) - (r2.1.1.length : Int))) + (r2.1.2.1.length : Int)) > 8) then
       some (([] : List Tp), (([] : List Int), ((4 : Int), ())))
      else loopF (fstepL1 m f pc s r2) fuel ((fnexts ((m.2.2.2.1.getD f.toNat zMt).2.2.2.1.getD pc.toNat zIns) pc), ((0 : Int), ()))
    else none
   else none
  else none
 else none
def tmergeL1 (m : Im) (o : Sh) (s : List Tp) (s2 : Int × List Tp × Unit) (rec3 : (Int × List Tp × Unit) → Option (Sh × Bool × Bool × Unit)) : Option (Sh × Bool × Bool × Unit) :=
 bif decide (s2.1 < (s.length : Int)) then
  bif decide (0 ≤ s2.1) && decide (s2.1 < s.length) then
   bif decide (0 ≤ s2.1) && decide (s2.1 < o.2.1.length) then
    (kjoin m.1 (o.2.1.getD s2.1.toNat zTp) (s.getD s2.1.toNat zTp)).bind fun r4 =>
    bif decide (0 ≤ s2.1) && decide (s2.1 < s2.2.1.length) then
     bif decide (0 ≤ s2.1) && decide (s2.1 < (s2.2.1.set s2.1.toNat r4.1).length) then
      bif (((s2.2.1.set s2.1.toNat r4.1).getD s2.1.toNat zTp).1) == 0 then
       some (o, false, false, ())
      else rec3 (IntKind.i64.wrap (s2.1 + 1), s2.2.1.set s2.1.toNat r4.1, ())
     else none
    else none
   else none
  else none
 else some ((true, s2.2.1, ()), !(eqL s2.2.1 o.2.1), true, ())
def tmergeN (fuel : Nat) (m : Im) (o : Sh) (s : List Tp) : Option (Sh × Bool × Bool × Unit) :=
 bif !o.1 then
  (cloneTN s).bind fun r1 =>
  some ((true, (idL r1.1), ()), true, true, ())
 else bif (o.2.1.length : Int) != (s.length : Int) then
  some (o, false, false, ())
 else bif decide (0 ≤ (s.length : Int)) && decide ((s.length : Int) ≤ (s.length : Int)) && decide ((s.length : Int) < (rowMax : Int)) then
  loopF (tmergeL1 m o s) fuel ((0 : Int), List.replicate s.length zTp, ())
 else none
def toneL1 (m : Im) (r1 : List Tp × List Int × Int × Unit) (s2 : Int × List Sh × List Bool × Unit) (rec3 : (Int × List Sh × List Bool × Unit) → Option (Bool × List Sh × List Bool × Unit)) : Option (Bool × List Sh × List Bool × Unit) :=
 bif decide (s2.1 < (r1.2.1.length : Int)) then
  bif decide (0 ≤ s2.1) && decide (s2.1 < r1.2.1.length) then
   bif decide (0 ≤ r1.2.1.getD s2.1.toNat 0) && decide (r1.2.1.getD s2.1.toNat 0 < s2.2.1.length) then
    (tmerge m (s2.2.1.getD (r1.2.1.getD s2.1.toNat 0).toNat zSh) r1.1).bind fun r4 =>
    bif !r4.2.2.1 then
     some (false, s2.2.1, s2.2.2.1, ())
    else bif r4.2.1 then
     bif decide (0 ≤ r1.2.1.getD s2.1.toNat 0) && decide (r1.2.1.getD s2.1.toNat 0 < s2.2.1.length) then
      bif decide (0 ≤ r1.2.1.getD s2.1.toNat 0) && decide (r1.2.1.getD s2.1.toNat 0 < s2.2.2.1.length) then
       rec3 (IntKind.i64.wrap (s2.1 + 1), s2.2.1.set (r1.2.1.getD s2.1.toNat 0).toNat r4.1, s2.2.2.1.set (r1.2.1.getD s2.1.toNat 0).toNat true, ())
      else none
     else none
    else rec3 (IntKind.i64.wrap (s2.1 + 1), s2.2.1, s2.2.2.1, ())
   else none
  else none
 else some (true, s2.2.1, s2.2.2.1, ())
def toneN (fuel : Nat) (m : Im) (f : Int) (pc : Int) (h : List Sh) (q : List Bool) : Option (Bool × List Sh × List Bool × Unit) :=
 bif decide (0 ≤ pc) && decide (pc < h.length) then
  (fstep m f pc (h.getD pc.toNat zSh).2.1).bind fun r1 =>
  bif r1.2.2.1 != 0 then
   some (false, h, q, ())
  else loopF (toneL1 m r1) fuel ((0 : Int), h, q, ())
 else none
def tmethodL1 (m : Im) (f : Int) (s1 : List Sh × List Bool × Unit) (rec2 : (List Sh × List Bool × Unit) → Option (List Sh × Int × Int × Unit)) (s3 : Int × Unit) (rec4 : (Int × Unit) → Option (List Sh × Int × Int × Unit)) : Option (List Sh × Int × Int × Unit) :=
 bif decide (s3.1 < (s1.2.1.length : Int)) then
  bif decide (0 ≤ s3.1) && decide (s3.1 < s1.2.1.length) then
   bif !(s1.2.1.getD s3.1.toNat false) then
    rec4 (IntKind.i64.wrap (s3.1 + 1), ())
   else bif decide (0 ≤ s3.1) && decide (s3.1 < s1.2.1.length) then
    (tone m f s3.1 s1.1 (s1.2.1.set s3.1.toNat false)).bind fun r5 =>
    bif !r5.1 then
     some (([] : List Sh), s3.1, ((4 : Int), ()))
    else rec2 (r5.2.1, r5.2.2.1, ())
   else none
  else none
 else some (s1.1, ((0 : Int), ((0 : Int), ())))
def tmethodL2 (m : Im) (f : Int) (fuel : Nat) (s1 : List Sh × List Bool × Unit) (rec2 : (List Sh × List Bool × Unit) → Option (List Sh × Int × Int × Unit)) : Option (List Sh × Int × Int × Unit) :=
 loopF (tmethodL1 m f s1 rec2) fuel ((0 : Int), ())
def tmethodN (fuel : Nat) (m : Im) (f : Int) : Option (List Sh × Int × Int × Unit) :=
 bif decide (0 ≤ f) && decide (f < m.2.2.2.1.length) then
  bif decide (0 ≤ ((m.2.2.2.1.getD f.toNat zMt).2.2.2.1.length : Int)) && decide (((m.2.2.2.1.getD f.toNat zMt).2.2.2.1.length : Int) ≤ ((m.2.2.2.1.getD f.toNat zMt).2.2.2.1.length : Int)) && decide (((m.2.2.2.1.getD f.toNat zMt).2.2.2.1.length : Int) < (rowMax : Int)) then
   bif ((List.replicate ((m.2.2.2.1.getD f.toNat zMt).2.2.2.1.length : Int).toNat zSh).length : Int) == 0 then
    some (([] : List Sh), ((0 : Int), ((4 : Int), ())))
   else bif decide ((0 : Int) < (List.replicate ((m.2.2.2.1.getD f.toNat zMt).2.2.2.1.length : Int).toNat zSh).length) then
    bif decide (0 ≤ (((List.replicate ((m.2.2.2.1.getD f.toNat zMt).2.2.2.1.length : Int).toNat zSh).set 0 (true, ((List.replicate ((m.2.2.2.1.getD f.toNat zMt).2.2.2.1.length : Int).toNat zSh).getD 0 zSh).2)).length : Int)) && decide ((((List.replicate ((m.2.2.2.1.getD f.toNat zMt).2.2.2.1.length : Int).toNat zSh).set 0 (true, ((List.replicate ((m.2.2.2.1.getD f.toNat zMt).2.2.2.1.length : Int).toNat zSh).getD 0 zSh).2)).length : Int) ≤ (((List.replicate ((m.2.2.2.1.getD f.toNat zMt).2.2.2.1.length : Int).toNat zSh).set 0 (true, ((List.replicate ((m.2.2.2.1.getD f.toNat zMt).2.2.2.1.length : Int).toNat zSh).getD 0 zSh).2)).length : Int)) && decide ((((List.replicate ((m.2.2.2.1.getD f.toNat zMt).2.2.2.1.length : Int).toNat zSh).set 0 (true, ((List.replicate ((m.2.2.2.1.getD f.toNat zMt).2.2.2.1.length : Int).toNat zSh).getD 0 zSh).2)).length : Int) < (rowMax : Int)) then
     bif decide ((0 : Int) < (List.replicate (((List.replicate ((m.2.2.2.1.getD f.toNat zMt).2.2.2.1.length : Int).toNat zSh).set 0 (true, ((List.replicate ((m.2.2.2.1.getD f.toNat zMt).2.2.2.1.length : Int).toNat zSh).getD 0 zSh).2)).length : Int).toNat false).length) then
      loopF (tmethodL2 m f fuel) fuel ((List.replicate ((m.2.2.2.1.getD f.toNat zMt).2.2.2.1.length : Int).toNat zSh).set 0 (true, ((List.replicate ((m.2.2.2.1.getD f.toNat zMt).2.2.2.1.length : Int).toNat zSh).getD 0 zSh).2), ((List.replicate (((List.replicate ((m.2.2.2.1.getD f.toNat zMt).2.2.2.1.length : Int).toNat zSh).set 0 (true, ((List.replicate ((m.2.2.2.1.getD f.toNat zMt).2.2.2.1.length : Int).toNat zSh).getD 0 zSh).2)).length : Int).toNat false).set 0 true, ()))
     else none
    else none
   else none
  else none
 else none
def tcheckL1 (m : Im) (s1 : List (List Sh) × Int × Unit) (rec2 : (List (List Sh) × Int × Unit) → Option (List (List Sh) × Int × Int × Int × Unit)) : Option (List (List Sh) × Int × Int × Int × Unit) :=
 bif decide (s1.2.1 < (m.2.2.2.1.length : Int)) then
  (tmethod m s1.2.1).bind fun r3 =>
  bif r3.2.2.1 != 0 then
   some (([] : List (List Sh)), s1.2.1, r3.2.1, r3.2.2.1, ())
  else bif decide (s1.1.length + [r3.1].length < rowMax) then
   rec2 (s1.1 ++ [r3.1], IntKind.i64.wrap (s1.2.1 + 1), ())
  else none
 else some ((idL s1.1), ((0 : Int), ((0 : Int), ((0 : Int), ()))))
def tcheckN (fuel : Nat) (m : Im) : Option (List (List Sh) × Int × Int × Int × Unit) :=
 loopF (tcheckL1 m) fuel (([] : List (List Sh)), ((0 : Int), ()))
def cyc1Len (_to : Int) (part : List Int) : Prop := True ∧ (part.length ≤ lenMax ∧ ∀ x1 : Int, x1 ∈ part → True) ∧ True
def cyc1N (to : Int) (part : List Int) : Option (Bool × Unit) :=
 some ((containsI part to), ())
def indexCycLen (l : List Int) (c : List Int × Unit) : Prop := (l.length ≤ lenMax ∧ ∀ x1 : Int, x1 ∈ l → True) ∧ ((c.1.length ≤ lenMax ∧ ∀ x1 : Int, x1 ∈ c.1 → True) ∧ True) ∧ True
def indexCycL1 (l : List Int) (c : List Int × Unit) (s1 : Int × Unit) (rec2 : (Int × Unit) → Option (Int × Unit)) : Option (Int × Unit) :=
 bif decide (s1.1 < (l.length : Int)) then
  bif decide (0 ≤ s1.1) && decide (s1.1 < l.length) then
   bif (cyc1 (l.getD s1.1.toNat 0) c.1) then
    some (s1.1, ())
   else rec2 (IntKind.i64.wrap (s1.1 + 1), ())
  else none
 else some ((-1 : Int), ())
def indexCycN (fuel : Nat) (l : List Int) (c : List Int × Unit) : Option (Int × Unit) :=
 loopF (indexCycL1 l c) fuel ((0 : Int), ())
def containsCycLen (l : List Int) (c : List Int × Unit) : Prop := (l.length ≤ lenMax ∧ ∀ x1 : Int, x1 ∈ l → True) ∧ ((c.1.length ≤ lenMax ∧ ∀ x1 : Int, x1 ∈ c.1 → True) ∧ True) ∧ True
def containsCycN (l : List Int) (c : List Int × Unit) : Option (Bool × Unit) :=
 some (decide ((indexCyc l c) ≥ 0), ())
def cyclicL1 (l : List (List Int)) (part : List Int) (s1 : Int × Unit) (rec2 : (Int × Unit) → Option (Bool × Unit)) : Option (Bool × Unit) :=
 bif decide (s1.1 < (part.length : Int)) then
  bif decide (0 ≤ s1.1) && decide (s1.1 < part.length) then
   bif decide (part.getD s1.1.toNat 0 < 0) then
    rec2 (IntKind.i64.wrap (s1.1 + 1), ())
   else bif decide (part.getD s1.1.toNat 0 ≥ (l.length : Int)) then
    rec2 (IntKind.i64.wrap (s1.1 + 1), ())
   else bif decide (0 ≤ part.getD s1.1.toNat 0) && decide (part.getD s1.1.toNat 0 < l.length) then
    bif (containsCyc (l.getD (part.getD s1.1.toNat 0).toNat ([] : List Int)) (part, ())) then
     some (true, ())
    else rec2 (IntKind.i64.wrap (s1.1 + 1), ())
   else none
  else none
 else some (false, ())
def cyclicN (fuel : Nat) (l : List (List Int)) (part : List Int) : Option (Bool × Unit) :=
 loopF (cyclicL1 l part) fuel ((0 : Int), ())
def dboundL1 (s1 : List (List Int) × Int × Unit) (r4 : List (List Int) × Unit) (s8 : Int × Int × Int × Unit) (s5 : Int × List Int × Unit) (rec9 : (Int × Int × Int × Unit) → Option (List Int × Int × Unit)) (s10 : Int × Unit) (r12 : Int × Unit) (s13 : Int × Int × Unit) (rec14 : (Int × Int × Unit) → Option (List Int × Int × Unit)) : Option (List Int × Int × Unit) :=
 bif decide (s13.2.1 < ((s1.1.getD ((r4.1.getD s5.1.toNat ([] : List Int)).getD s8.2.2.1.toNat 0).toNat ([] : List Int)).length : Int)) then
  bif decide (0 ≤ s13.2.1) && decide (s13.2.1 < (s1.1.getD ((r4.1.getD s5.1.toNat ([] : List Int)).getD s8.2.2.1.toNat 0).toNat ([] : List Int)).length) then
   bif !(containsI (r4.1.getD s5.1.toNat ([] : List Int)) ((s1.1.getD ((r4.1.getD s5.1.toNat ([] : List Int)).getD s8.2.2.1.toNat 0).toNat ([] : List Int)).getD s13.2.1.toNat 0)) then
    bif decide ((s1.1.getD ((r4.1.getD s5.1.toNat ([] : List Int)).getD s8.2.2.1.toNat 0).toNat ([] : List Int)).getD s13.2.1.toNat 0 < (s5.2.1.length : Int)) then
     bif decide (0 ≤ (s1.1.getD ((r4.1.getD s5.1.toNat ([] : List Int)).getD s8.2.2.1.toNat 0).toNat ([] : List Int)).getD s13.2.1.toNat 0) && decide ((s1.1.getD ((r4.1.getD s5.1.toNat ([] : List Int)).getD s8.2.2.1.toNat 0).toNat ([] : List Int)).getD s13.2.1.toNat 0 < s5.2.1.length) then
      rec14 (max s13.1 (s5.2.1.getD ((s1.1.getD ((r4.1.getD s5.1.toNat ([] : List Int)).getD s8.2.2.1.toNat 0).toNat ([] : List Int)).getD s13.2.1.toNat 0).toNat 0), IntKind.i64.wrap (s13.2.1 + 1), ())
     else none
    else rec14 (s13.1, IntKind.i64.wrap (s13.2.1 + 1), ())
   else rec14 (s13.1, IntKind.i64.wrap (s13.2.1 + 1), ())
  else none
 else rec9 (IntKind.i64.wrap (s8.1 + (IntKind.i64.wrap (s10.1 * r12.1))), s13.1, IntKind.i64.wrap (s8.2.2.1 + 1), ())
def dboundL2 (r4 : List (List Int) × Unit) (s8 : Int × Int × Int × Unit) (s5 : Int × List Int × Unit) (rec6 : (Int × List Int × Unit) → Option (List Int × Int × Unit)) (s15 : Int × List Int × Unit) (rec16 : (Int × List Int × Unit) → Option (List Int × Int × Unit)) : Option (List Int × Int × Unit) :=
 bif decide (s15.1 < ((r4.1.getD s5.1.toNat ([] : List Int)).length : Int)) then
  bif decide (0 ≤ s15.1) && decide (s15.1 < (r4.1.getD s5.1.toNat ([] : List Int)).length) then
   bif decide (0 ≤ (r4.1.getD s5.1.toNat ([] : List Int)).getD s15.1.toNat 0) && decide ((r4.1.getD s5.1.toNat ([] : List Int)).getD s15.1.toNat 0 < s15.2.1.length) then
    rec16 (IntKind.i64.wrap (s15.1 + 1), (s15.2.1.set ((r4.1.getD s5.1.toNat ([] : List Int)).getD s15.1.toNat 0).toNat (IntKind.i64.wrap (s8.1 + s8.2.1)), ()))
   else none
  else none
 else rec6 (IntKind.i64.wrap (s5.1 + 1), s15.2.1, ())
def dboundL3 (m : Im) (l : List (List Sh)) (fuel : Nat) (s1 : List (List Int) × Int × Unit) (r4 : List (List Int) × Unit) (r7 : Bool × Unit) (s5 : Int × List Int × Unit) (rec6 : (Int × List Int × Unit) → Option (List Int × Int × Unit)) (s8 : Int × Int × Int × Unit) (rec9 : (Int × Int × Int × Unit) → Option (List Int × Int × Unit)) : Option (List Int × Int × Unit) :=
 bif decide (s8.2.2.1 < ((r4.1.getD s5.1.toNat ([] : List Int)).length : Int)) then
  bif decide (0 ≤ s8.2.2.1) && decide (s8.2.2.1 < (r4.1.getD s5.1.toNat ([] : List Int)).length) then
   (bif r7.1 then
    bif decide (0 ≤ (r4.1.getD s5.1.toNat ([] : List Int)).getD s8.2.2.1.toNat 0) && decide ((r4.1.getD s5.1.toNat ([] : List Int)).getD s8.2.2.1.toNat 0 < m.2.2.2.1.length) then
     some (.inl ((m.2.2.2.1.getD ((r4.1.getD s5.1.toNat ([] : List Int)).getD s8.2.2.1.toNat 0).toNat zMt).2.2.2.2.1, ()))
    else none
   else some (.inl ((1 : Int), ())) : Option ((Int × Unit) ⊕ (List Int × Int × Unit))).bind fun q => match q with
   | .inr r11 => some r11
   | .inl s10 =>
    bif decide (s10.1 < 1) then
     some (([] : List Int), ((5 : Int), ()))
    else 
     (dframeN m l ((r4.1.getD s5.1.toNat ([] : List Int)).getD s8.2.2.1.toNat 0)).bind fun r12 =>
     bif decide (0 ≤ (r4.1.getD s5.1.toNat ([] : List Int)).getD s8.2.2.1.toNat 0) && decide ((r4.1.getD s5.1.toNat ([] : List Int)).getD s8.2.2.1.toNat 0 < s1.1.length) then
      loopF (dboundL1 s1 r4 s8 s5 rec9 s10 r12) fuel (s8.2.1, ((0 : Int), ()))
     else none
  else none
 else loopF (dboundL2 r4 s8 s5 rec6) fuel ((0 : Int), s5.2.1, ())
def dboundL4 (m : Im) (l : List (List Sh)) (fuel : Nat) (s1 : List (List Int) × Int × Unit) (r4 : List (List Int) × Unit) (s5 : Int × List Int × Unit) (rec6 : (Int × List Int × Unit) → Option (List Int × Int × Unit)) : Option (List Int × Int × Unit) :=
 bif decide (s5.1 < (r4.1.length : Int)) then
  bif decide (0 ≤ s5.1) && decide (s5.1 < r4.1.length) then
   (cyclic s1.1 (r4.1.getD s5.1.toNat ([] : List Int))).bind fun r7 =>
   loopF (dboundL3 m l fuel s1 r4 r7 s5 rec6) fuel ((0 : Int), ((0 : Int), ((0 : Int), ())))
  else none
 else some (s5.2.1, ((0 : Int), ()))
def dboundL5 (m : Im) (l : List (List Sh)) (fuel : Nat) (s1 : List (List Int) × Int × Unit) (rec2 : (List (List Int) × Int × Unit) → Option (List Int × Int × Unit)) : Option (List Int × Int × Unit) :=
 bif decide (s1.2.1 < (m.2.2.2.1.length : Int)) then
  (cof m s1.2.1).bind fun r3 =>
  bif decide (s1.1.length + [r3.1].length < rowMax) then
   rec2 (s1.1 ++ [r3.1], IntKind.i64.wrap (s1.2.1 + 1), ())
  else none
 else bif decide (0 ≤ (m.2.2.2.1.length : Int)) && decide ((m.2.2.2.1.length : Int) ≤ (m.2.2.2.1.length : Int)) && decide ((m.2.2.2.1.length : Int) < (rowMax : Int)) then
  (rings s1.1).bind fun r4 =>
  loopF (dboundL4 m l fuel s1 r4) fuel ((0 : Int), (List.replicate m.2.2.2.1.length (0 : Int), ()))
 else none
def dboundN (fuel : Nat) (m : Im) (l : List (List Sh)) : Option (List Int × Int × Unit) :=
 loopF (dboundL5 m l fuel) fuel (([] : List (List Int)), ((0 : Int), ()))
def mul64N (x : Int) (y : Int) : Option (Int × Int × Unit) :=
 some (IntKind.u64.wrap ((IntKind.u64.wrap ((IntKind.u64.wrap ((x.fdiv 4294967296) * (y.fdiv 4294967296))) + ((IntKind.u64.wrap ((IntKind.u64.wrap ((x.fdiv 4294967296) * (IntKind.u64.wrap ((BitVec.ofInt 64 y &&& BitVec.ofInt 64 4294967295).toNat)))) + ((IntKind.u64.wrap ((IntKind.u64.wrap ((BitVec.ofInt 64 x &&& BitVec.ofInt 64 4294967295).toNat)) * (IntKind.u64.wrap ((BitVec.ofInt 64 y &&& BitVec.ofInt 64 4294967295).toNat)))).fdiv 4294967296))).fdiv 4294967296))) + ((IntKind.u64.wrap ((IntKind.u64.wrap ((BitVec.ofInt 64 (IntKind.u64.wrap ((IntKind.u64.wrap ((x.fdiv 4294967296) * (IntKind.u64.wrap ((BitVec.ofInt 64 y &&& BitVec.ofInt 64 4294967295).toNat)))) + ((IntKind.u64.wrap ((IntKind.u64.wrap ((BitVec.ofInt 64 x &&& BitVec.ofInt 64 4294967295).toNat)) * (IntKind.u64.wrap ((BitVec.ofInt 64 y &&& BitVec.ofInt 64 4294967295).toNat)))).fdiv 4294967296))) &&& BitVec.ofInt 64 4294967295).toNat)) + (IntKind.u64.wrap ((IntKind.u64.wrap ((BitVec.ofInt 64 x &&& BitVec.ofInt 64 4294967295).toNat)) * (y.fdiv 4294967296))))).fdiv 4294967296)), IntKind.u64.wrap (x * y), ())
def lofN (n : Int) : Option ((Int × Bool × Unit) × Unit) :=
 bif decide (n > (-4611686018427387904 : Int)) then
  some ((n, decide (n < 4611686018427387904), ()), ())
 else some ((n, false, ()), ())
def lsizeN (n : Int) : Option (Int × Unit) :=
 bif decide (n < 0) then
  some (IntKind.u64.wrap (IntKind.i64.wrap (0 - n)), ())
 else some (IntKind.u64.wrap n, ())
def lplusN (a : Int × Bool × Unit) (b : Int × Bool × Unit) : Option ((Int × Bool × Unit) × Unit) :=
 bif !a.2.1 then
  some (((0 : Int), false, ()), ())
 else bif !b.2.1 then
  some (((0 : Int), false, ()), ())
 else some ((lof (IntKind.i64.wrap (a.1 + b.1))), ())
def ltimesN (a : Int × Bool × Unit) (b : Int × Bool × Unit) : Option ((Int × Bool × Unit) × Unit) :=
 bif !a.2.1 then
  some (((0 : Int), false, ()), ())
 else bif !b.2.1 then
  some (((0 : Int), false, ()), ())
 else 
  (mul64 (lsize a.1) (lsize b.1)).bind fun r1 =>
  bif r1.1 != 0 then
   some (((0 : Int), false, ()), ())
  else bif decide (r1.2.1 ≥ 4611686018427387904) then
   some (((0 : Int), false, ()), ())
  else some ((lof (IntKind.i64.wrap (a.1 * b.1))), ())
def lholdsL1 (q : Iq) (v : List Int) (s1 : Int × (Int × Bool × Unit) × Unit) (rec2 : (Int × (Int × Bool × Unit) × Unit) → Option (Bool × Int × Unit)) : Option (Bool × Int × Unit) :=
 bif decide (s1.1 < (q.1.length : Int)) then
  bif decide (0 ≤ s1.1) && decide (s1.1 < q.1.length) then
   bif decide (0 ≤ s1.1) && decide (s1.1 < v.length) then
    (ltimes (lof (q.1.getD s1.1.toNat 0)) (lof (v.getD s1.1.toNat 0))).bind fun r3 =>
    (lplus s1.2.1 r3.1).bind fun r4 =>
    rec2 (IntKind.i64.wrap (s1.1 + 1), r4.1, ())
   else none
  else none
 else bif !s1.2.1.2.1 then
  some (false, ((14 : Int), ()))
 else some (decide (s1.2.1.1 ≤ q.2.1), ((0 : Int), ()))
def lholdsN (fuel : Nat) (q : Iq) (v : List Int) : Option (Bool × Int × Unit) :=
 bif (q.1.length : Int) != (v.length : Int) then
  some (false, ((14 : Int), ()))
 else loopF (lholdsL1 q v) fuel ((0 : Int), ((lof (0 : Int)), ()))
def pshapeN (l : List (List Sh)) (f : Int) (pc : Int) : Option (Sh × Unit) :=
 bif decide (f ≥ (l.length : Int)) then
  some ((false, (([] : List Tp), ())), ())
 else bif decide (0 ≤ f) && decide (f < l.length) then
  bif decide (pc ≥ ((l.getD f.toNat ([] : List Sh)).length : Int)) then
   some ((false, (([] : List Tp), ())), ())
  else bif decide (0 ≤ f) && decide (f < l.length) then
   bif decide (0 ≤ pc) && decide (pc < (l.getD f.toNat ([] : List Sh)).length) then
    some ((l.getD f.toNat ([] : List Sh)).getD pc.toNat zSh, ())
   else none
  else none
 else none
def pcostL1 (m : Im) (r2 : List Int × Unit) (s3 : Int × Int × Unit) (rec4 : (Int × Int × Unit) → Option (Int × Unit)) : Option (Int × Unit) :=
 bif decide (s3.2.1 < (r2.1.length : Int)) then
  bif decide (0 ≤ s3.2.1) && decide (s3.2.1 < r2.1.length) then
   bif decide (r2.1.getD s3.2.1.toNat 0 ≥ 0) then
    bif decide (r2.1.getD s3.2.1.toNat 0 < (m.2.2.2.1.length : Int)) then
     bif decide (0 ≤ r2.1.getD s3.2.1.toNat 0) && decide (r2.1.getD s3.2.1.toNat 0 < m.2.2.2.1.length) then
      rec4 (max s3.1 (m.2.2.2.1.getD (r2.1.getD s3.2.1.toNat 0).toNat zMt).2.2.2.2.2.1, IntKind.i64.wrap (s3.2.1 + 1), ())
     else none
    else rec4 (s3.1, IntKind.i64.wrap (s3.2.1 + 1), ())
   else rec4 (s3.1, IntKind.i64.wrap (s3.2.1 + 1), ())
  else none
 else some (s3.1, ())
def pcostN (fuel : Nat) (m : Im) (i : Ins) : Option (Int × Unit) :=
 bif i.1 == 22 then
  (csize m i.2.1).bind fun r1 =>
  some (r1.1, ())
 else bif i.1 == 23 then
  some (IntKind.i64.wrap ((1 : Int) + (max 0 (min i.2.1 255))), ())
 else 
  (ctargets m i).bind fun r2 =>
  loopF (pcostL1 m r2) fuel ((0 : Int), ((0 : Int), ()))
def prowN (n : Int) (a : Int) (b : Int) (c : Int) : Option (Iq × Unit) :=
 bif decide (0 ≤ n) && decide (n ≤ n) && decide (n < (rowMax : Int)) then
  bif decide (a ≥ 0) then
   bif decide (0 ≤ a) && decide (a < (List.replicate n.toNat (0 : Int)).length) then
    bif decide (0 ≤ a) && decide (a < (List.replicate n.toNat (0 : Int)).length) then
     bif decide (b ≥ 0) then
      bif decide (0 ≤ b) && decide (b < ((List.replicate n.toNat (0 : Int)).set a.toNat (IntKind.i64.wrap (((List.replicate n.toNat (0 : Int)).getD a.toNat 0) - 1))).length) then
       bif decide (0 ≤ b) && decide (b < ((List.replicate n.toNat (0 : Int)).set a.toNat (IntKind.i64.wrap (((List.replicate n.toNat (0 : Int)).getD a.toNat 0) - 1))).length) then
        some ((((List.replicate n.toNat (0 : Int)).set a.toNat (IntKind.i64.wrap (((List.replicate n.toNat (0 : Int)).getD a.toNat 0) - 1))).set b.toNat (IntKind.i64.wrap ((((List.replicate n.toNat (0 : Int)).set a.toNat (IntKind.i64.wrap (((List.replicate n.toNat (0 : Int)).getD a.toNat 0) - 1))).getD b.toNat 0) + 1)), c, ()), ())
       else none
      else none
     else some (((List.replicate n.toNat (0 : Int)).set a.toNat (IntKind.i64.wrap (((List.replicate n.toNat (0 : Int)).getD a.toNat 0) - 1)), c, ()), ())
    else none
   else none
  else bif decide (b ≥ 0) then
   bif decide (0 ≤ b) && decide (b < (List.replicate n.toNat (0 : Int)).length) then
    bif decide (0 ≤ b) && decide (b < (List.replicate n.toNat (0 : Int)).length) then
     some (((List.replicate n.toNat (0 : Int)).set b.toNat (IntKind.i64.wrap (((List.replicate n.toNat (0 : Int)).getD b.toNat 0) + 1)), c, ()), ())
    else none
   else none
  else some ((List.replicate n.toNat (0 : Int), c, ()), ())
 else none
def prulesL1 (m : Im) (f : Int) (r5 : List Tp × List Int × Int × Unit) (s2 : List Iq × Int × Unit) (rec3 : (List Iq × Int × Unit) → Option (List Iq × Unit)) (s9 : List Iq × Int × Unit) (rec10 : (List Iq × Int × Unit) → Option (List Iq × Unit)) : Option (List Iq × Unit) :=
 bif decide (s9.2.1 < (r5.2.1.length : Int)) then
  bif decide (0 ≤ s9.2.1) && decide (s9.2.1 < r5.2.1.length) then
   (pcost m ((m.2.2.2.1.getD f.toNat zMt).2.2.2.1.getD s2.2.1.toNat zIns)).bind fun r11 =>
   (prow ((m.2.2.2.1.getD f.toNat zMt).2.2.2.1.length : Int) s2.2.1 (r5.2.1.getD s9.2.1.toNat 0) (IntKind.i64.wrap (0 - r11.1))).bind fun r12 =>
   bif decide (s9.1.length + [r12.1].length < rowMax) then
    rec10 (s9.1 ++ [r12.1], IntKind.i64.wrap (s9.2.1 + 1), ())
   else none
  else none
 else rec3 (s9.1, IntKind.i64.wrap (s2.2.1 + 1), ())
def prulesL2 (m : Im) (l : List (List Sh)) (f : Int) (fuel : Nat) (s2 : List Iq × Int × Unit) (rec3 : (List Iq × Int × Unit) → Option (List Iq × Unit)) : Option (List Iq × Unit) :=
 bif decide (s2.2.1 < ((m.2.2.2.1.getD f.toNat zMt).2.2.2.1.length : Int)) then
  bif decide (0 ≤ s2.2.1) && decide (s2.2.1 < (m.2.2.2.1.getD f.toNat zMt).2.2.2.1.length) then
   (pshape l f s2.2.1).bind fun r4 =>
   bif !r4.1.1 then
    rec3 (s2.1, IntKind.i64.wrap (s2.2.1 + 1), ())
   else 
    (fstep m f s2.2.1 r4.1.2.1).bind fun r5 =>
    bif r5.2.2.1 != 0 then
     rec3 (s2.1, IntKind.i64.wrap (s2.2.1 + 1), ())
    else 
     (bif (r5.2.1.length : Int) == 0 then
      (prow ((m.2.2.2.1.getD f.toNat zMt).2.2.2.1.length : Int) s2.2.1 (-1 : Int) (0 : Int)).bind fun r8 =>
      bif decide (s2.1.length + [r8.1].length < rowMax) then
       some (.inl (s2.1 ++ [r8.1], ()))
      else none
     else some (.inl (s2.1, ())) : Option ((List Iq × Unit) ⊕ (List Iq × Unit))).bind fun q => match q with
     | .inr r7 => some r7
     | .inl s6 =>
      loopF (prulesL1 m f r5 s2 rec3) fuel (s6.1, ((0 : Int), ()))
  else none
 else some ((idL s2.1), ())
def prulesN (fuel : Nat) (m : Im) (l : List (List Sh)) (f : Int) : Option (List Iq × Unit) :=
 bif decide (f < 0) then
  some (([] : List Iq), ())
 else bif decide (f ≥ (m.2.2.2.1.length : Int)) then
  some (([] : List Iq), ())
 else bif decide (0 ≤ f) && decide (f < m.2.2.2.1.length) then
  bif ((m.2.2.2.1.getD f.toNat zMt).2.2.2.1.length : Int) == 0 then
   some (([] : List Iq), ())
  else bif decide (0 ≤ f) && decide (f < m.2.2.2.1.length) then
   bif decide (0 ≤ f) && decide (f < m.2.2.2.1.length) then
    (prow ((m.2.2.2.1.getD f.toNat zMt).2.2.2.1.length : Int) (-1 : Int) (0 : Int) (m.2.2.2.1.getD f.toNat zMt).2.2.2.2.2.1).bind fun r1 =>
    loopF (prulesL2 m l f fuel) fuel ([r1.1], ((0 : Int), ()))
   else none
  else none
 else none
def pnegN (n : Int) : Bool :=
 decide (n < 0)
def indexNegLen (l : List Int) (_c : Unit) : Prop := (l.length ≤ lenMax ∧ ∀ x1 : Int, x1 ∈ l → True) ∧ True ∧ True
def indexNegL1 (l : List Int) (s1 : Int × Unit) (rec2 : (Int × Unit) → Option (Int × Unit)) : Option (Int × Unit) :=
 bif decide (s1.1 < (l.length : Int)) then
  bif decide (0 ≤ s1.1) && decide (s1.1 < l.length) then
   bif (pnegN (l.getD s1.1.toNat 0)) then
    some (s1.1, ())
   else rec2 (IntKind.i64.wrap (s1.1 + 1), ())
  else none
 else some ((-1 : Int), ())
def indexNegN (fuel : Nat) (l : List Int) (_c : Unit) : Option (Int × Unit) :=
 loopF (indexNegL1 l) fuel ((0 : Int), ())
def containsNegLen (l : List Int) (_c : Unit) : Prop := (l.length ≤ lenMax ∧ ∀ x1 : Int, x1 ∈ l → True) ∧ True ∧ True
def containsNegN (l : List Int) (c : Unit) : Option (Bool × Unit) :=
 some (decide ((indexNeg l c) ≥ 0), ())
def pcheckL1 (m : Im) (s1 : Int × Unit) (rec2 : (Int × Unit) → Option (Int × Int × Unit)) (r3 : List Iq × Unit) (s4 : Int × Unit) (rec5 : (Int × Unit) → Option (Int × Int × Unit)) : Option (Int × Int × Unit) :=
 bif decide (s4.1 < (r3.1.length : Int)) then
  bif decide (0 ≤ s4.1) && decide (s4.1 < r3.1.length) then
   (lholds (r3.1.getD s4.1.toNat zIq) (m.2.2.2.1.getD s1.1.toNat zMt).2.2.2.2.2.2.1).bind fun r6 =>
   bif r6.2.1 != 0 then
    some (s1.1, ((6 : Int), ()))
   else bif !r6.1 then
    some (s1.1, ((6 : Int), ()))
   else rec5 (IntKind.i64.wrap (s4.1 + 1), ())
  else none
 else bif (containsNeg (m.2.2.2.1.getD s1.1.toNat zMt).2.2.2.2.2.2.1 ()) then
  some (s1.1, ((6 : Int), ()))
 else rec2 (IntKind.i64.wrap (s1.1 + 1), ())
def pcheckL2 (m : Im) (l : List (List Sh)) (fuel : Nat) (s1 : Int × Unit) (rec2 : (Int × Unit) → Option (Int × Int × Unit)) : Option (Int × Int × Unit) :=
 bif decide (s1.1 < (m.2.2.2.1.length : Int)) then
  bif decide (0 ≤ s1.1) && decide (s1.1 < m.2.2.2.1.length) then
   (prules m l s1.1).bind fun r3 =>
   loopF (pcheckL1 m s1 rec2 r3) fuel ((0 : Int), ())
  else none
 else some ((0 : Int), ((0 : Int), ()))
def pcheckN (fuel : Nat) (m : Im) (l : List (List Sh)) : Option (Int × Int × Unit) :=
 loopF (pcheckL2 m l fuel) fuel ((0 : Int), ())
def aneedsL1 (m : Im) (r1 : List Int × Int × Unit) (s2 : Int × Int × Int × Unit) (rec3 : (Int × Int × Int × Unit) → Option (Int × Int × Int × Unit)) : Option (Int × Int × Int × Unit) :=
 bif decide (s2.2.2.1 < (m.2.2.2.2.1.length : Int)) then
  bif decide (0 ≤ s2.2.2.1) && decide (s2.2.2.1 < m.2.2.2.2.1.length) then
   (bif decide (m.2.2.2.2.1.getD s2.2.2.1.toNat 0 ≥ 0) then
    some (.inl (decide (m.2.2.2.2.1.getD s2.2.2.1.toNat 0 < (r1.1.length : Int)), ()))
   else some (.inl (false, ())) : Option ((Bool × Unit) ⊕ (Int × Int × Int × Unit))).bind fun q => match q with
   | .inr r5 => some r5
   | .inl s4 =>
    bif s4.1 then
     bif decide (0 ≤ m.2.2.2.2.1.getD s2.2.2.1.toNat 0) && decide (m.2.2.2.2.1.getD s2.2.2.1.toNat 0 < r1.1.length) then
      bif decide (0 ≤ m.2.2.2.2.1.getD s2.2.2.1.toNat 0) && decide (m.2.2.2.2.1.getD s2.2.2.1.toNat 0 < m.2.2.2.1.length) then
       rec3 (max s2.1 (r1.1.getD (m.2.2.2.2.1.getD s2.2.2.1.toNat 0).toNat 0), max s2.2.1 (m.2.2.2.1.getD (m.2.2.2.2.1.getD s2.2.2.1.toNat 0).toNat zMt).2.2.2.2.2.1, IntKind.i64.wrap (s2.2.2.1 + 1), ())
      else none
     else none
    else rec3 (s2.1, s2.2.1, IntKind.i64.wrap (s2.2.2.1 + 1), ())
  else none
 else some (s2.1, (IntKind.i64.wrap ((m.2.1.length : Int) + s2.2.1), ((0 : Int), ())))
def aneedsN (fuel : Nat) (m : Im) (l : List (List Sh)) : Option (Int × Int × Int × Unit) :=
 (dbound m l).bind fun r1 =>
 bif r1.2.1 != 0 then
  some ((0 : Int), ((0 : Int), r1.2.1, ()))
 else loopF (aneedsL1 m r1) fuel ((0 : Int), ((0 : Int), ((0 : Int), ())))
def acheckN (m : Im) : Option (List (List Sh) × Int × Unit) :=
 bif (scheck m) != 0 then
  some (([] : List (List Sh)), (scheck m), ())
 else 
  (tcheck m).bind fun r1 =>
  bif r1.2.2.2.1 != 0 then
   some (([] : List (List Sh)), r1.2.2.2.1, ())
  else 
   (aneeds m r1.1).bind fun r2 =>
   bif r2.2.2.1 != 0 then
    some (([] : List (List Sh)), r2.2.2.1, ())
   else 
    (pcheck m r1.1).bind fun r3 =>
    bif r3.2.1 != 0 then
     some (([] : List (List Sh)), r3.2.1, ())
    else bif decide (r2.1 > m.2.2.2.2.2.1) then
     some (([] : List (List Sh)), ((7 : Int), ()))
    else bif decide (r2.2.1 > m.2.2.2.2.2.2.1) then
     some (([] : List (List Sh)), ((7 : Int), ()))
    else some (r1.1, ((0 : Int), ()))
def abytesN (b : List Int) : Option (Im × List (List Sh) × Int × Unit) :=
 (idecode b).bind fun r1 =>
 bif r1.2.1 != 0 then
  some ((([] : List Cl), (([] : List Tp), (([] : List Int), (([] : List Mt), (([] : List Int), ((0 : Int), ((0 : Int), ()))))))), (([] : List (List Sh)), r1.2.1, ()))
 else 
  (acheckN r1.1).bind fun r2 =>
  bif r2.2.1 != 0 then
   some ((([] : List Cl), (([] : List Tp), (([] : List Int), (([] : List Mt), (([] : List Int), ((0 : Int), ((0 : Int), ()))))))), (([] : List (List Sh)), r2.2.1, ()))
  else some (r1.1, r2.1, ((0 : Int), ()))
def r14costL1 (m : Im) (r2 : List Int × Unit) (s3 : Int × Int × Unit) (rec4 : (Int × Int × Unit) → Option (Int × Unit)) : Option (Int × Unit) :=
 bif decide (s3.2.1 < (r2.1.length : Int)) then
  bif decide (0 ≤ s3.2.1) && decide (s3.2.1 < r2.1.length) then
   bif decide (0 ≤ r2.1.getD s3.2.1.toNat 0) && decide (r2.1.getD s3.2.1.toNat 0 < m.2.2.2.1.length) then
    bif decide ((m.2.2.2.1.getD (r2.1.getD s3.2.1.toNat 0).toNat zMt).2.2.2.2.2.1 > s3.1) then
     bif decide (0 ≤ s3.2.1) && decide (s3.2.1 < r2.1.length) then
      bif decide (0 ≤ r2.1.getD s3.2.1.toNat 0) && decide (r2.1.getD s3.2.1.toNat 0 < m.2.2.2.1.length) then
       rec4 ((m.2.2.2.1.getD (r2.1.getD s3.2.1.toNat 0).toNat zMt).2.2.2.2.2.1, IntKind.i64.wrap (s3.2.1 + 1), ())
      else none
     else none
    else rec4 (s3.1, IntKind.i64.wrap (s3.2.1 + 1), ())
   else none
  else none
 else some (s3.1, ())
def r14costN (fuel : Nat) (m : Im) (i : Ins) : Option (Int × Unit) :=
 bif i.1 == 22 then
  (r5fields m i.2.1).bind fun r1 =>
  some (IntKind.i64.wrap ((1 : Int) + (r1.1.length : Int)), ())
 else bif i.1 == 23 then
  some (IntKind.i64.wrap ((1 : Int) + i.2.1), ())
 else 
  (r8targets m i).bind fun r2 =>
  loopF (r14costL1 m r2) fuel ((0 : Int), ((0 : Int), ()))
def r8sameL1 (a : List (List Sh)) (b : List (List Sh)) (s1 : Int × Unit) (rec2 : (Int × Unit) → Option (Bool × Unit)) (s3 : Int × Unit) (rec4 : (Int × Unit) → Option (Bool × Unit)) : Option (Bool × Unit) :=
 bif decide (0 ≤ s1.1) && decide (s1.1 < a.length) then
  bif decide (s3.1 < ((a.getD s1.1.toNat ([] : List Sh)).length : Int)) then
   bif decide (0 ≤ s1.1) && decide (s1.1 < a.length) then
    bif decide (0 ≤ s3.1) && decide (s3.1 < (a.getD s1.1.toNat ([] : List Sh)).length) then
     bif decide (0 ≤ s1.1) && decide (s1.1 < b.length) then
      bif decide (0 ≤ s3.1) && decide (s3.1 < (b.getD s1.1.toNat ([] : List Sh)).length) then
       bif !(((a.getD s1.1.toNat ([] : List Sh)).getD s3.1.toNat zSh).1 == ((b.getD s1.1.toNat ([] : List Sh)).getD s3.1.toNat zSh).1) then
        some (false, ())
       else bif decide (0 ≤ s1.1) && decide (s1.1 < a.length) then
        bif decide (0 ≤ s3.1) && decide (s3.1 < (a.getD s1.1.toNat ([] : List Sh)).length) then
         bif decide (0 ≤ s1.1) && decide (s1.1 < b.length) then
          bif decide (0 ≤ s3.1) && decide (s3.1 < (b.getD s1.1.toNat ([] : List Sh)).length) then
           bif !(rtypes ((a.getD s1.1.toNat ([] : List Sh)).getD s3.1.toNat zSh).2.1 ((b.getD s1.1.toNat ([] : List Sh)).getD s3.1.toNat zSh).2.1) then
            some (false, ())
           else rec4 (IntKind.i64.wrap (s3.1 + 1), ())
          else none
         else none
        else none
       else none
      else none
     else none
    else none
   else none
  else rec2 (IntKind.i64.wrap (s1.1 + 1), ())
 else none
def r8sameL2 (a : List (List Sh)) (b : List (List Sh)) (fuel : Nat) (s1 : Int × Unit) (rec2 : (Int × Unit) → Option (Bool × Unit)) : Option (Bool × Unit) :=
 bif decide (s1.1 < (a.length : Int)) then
  bif decide (0 ≤ s1.1) && decide (s1.1 < a.length) then
   bif decide (0 ≤ s1.1) && decide (s1.1 < b.length) then
    bif ((a.getD s1.1.toNat ([] : List Sh)).length : Int) != ((b.getD s1.1.toNat ([] : List Sh)).length : Int) then
     some (false, ())
    else loopF (r8sameL1 a b s1 rec2) fuel ((0 : Int), ())
   else none
  else none
 else some (true, ())
def r8sameN (fuel : Nat) (a : List (List Sh)) (b : List (List Sh)) : Option (Bool × Unit) :=
 bif (a.length : Int) != (b.length : Int) then
  some (false, ())
 else loopF (r8sameL2 a b fuel) fuel ((0 : Int), ())
def awake16N : Option (Bool × Unit) :=
 (acheckN (([] : List Cl), (([] : List Tp), (([] : List Int), ([(([] : List Tp), (([] : List Tp), (((5 : Int), ((0 : Int), ())), ([((33 : Int), ((0 : Int), ((0 : Int), ())))], ((0 : Int), ((0 : Int), (([0] : List Int), ())))))))], (([0] : List Int), ((3 : Int), ((0 : Int), ())))))))).bind fun r1 =>
 (acheckN (([] : List Cl), (([] : List Tp), (([] : List Int), ([(([] : List Tp), (([] : List Tp), (((5 : Int), ((0 : Int), ())), ([((33 : Int), ((0 : Int), ((0 : Int), ())))], ((0 : Int), ((0 : Int), (([0] : List Int), ())))))))], (([0] : List Int), ((2 : Int), ((0 : Int), ())))))))).bind fun r2 =>
 (aneeds (([] : List Cl), (([] : List Tp), (([] : List Int), ([(([] : List Tp), (([] : List Tp), (((5 : Int), ((0 : Int), ())), ([((33 : Int), ((0 : Int), ((0 : Int), ())))], ((0 : Int), ((0 : Int), (([0] : List Int), ())))))))], (([0] : List Int), ((2 : Int), ((0 : Int), ()))))))) r1.1).bind fun r3 =>
 (abytesN ([] : List Int)).bind fun r4 =>
 bif r1.2.1 == 0 then
  bif r2.2.1 == 7 then
   bif r3.2.2.1 == 0 then
    bif r3.1 == 3 then
     bif r3.2.1 == 0 then
      bif r4.2.2.1 == 2 then
       bif (r1.1.length : Int) == 1 then
        bif (r5fits (([] : List Cl), (([] : List Tp), (([] : List Int), ([(([] : List Tp), (([] : List Tp), (((5 : Int), ((0 : Int), ())), ([((33 : Int), ((0 : Int), ((0 : Int), ())))], ((0 : Int), ((0 : Int), (([0] : List Int), ())))))))], (([0] : List Int), ((2 : Int), ((0 : Int), ())))))))) then
         (r8edges (([] : List Cl), (([] : List Tp), (([] : List Int), ([(([] : List Tp), (([] : List Tp), (((5 : Int), ((0 : Int), ())), ([((33 : Int), ((0 : Int), ((0 : Int), ())))], ((0 : Int), ((0 : Int), (([0] : List Int), ())))))))], (([0] : List Int), ((2 : Int), ((0 : Int), ())))))))).bind fun r5 =>
         bif (r5.1.length : Int) == 1 then
          bif decide ((0 : Int) < [(([] : List Tp), (([] : List Tp), (((5 : Int), ((0 : Int), ())), ([((33 : Int), ((0 : Int), ((0 : Int), ())))], ((0 : Int), ((0 : Int), (([0] : List Int), ())))))))].length) then
           bif decide ((0 : Int) < ([(([] : List Tp), (([] : List Tp), (((5 : Int), ((0 : Int), ())), ([((33 : Int), ((0 : Int), ((0 : Int), ())))], ((0 : Int), ((0 : Int), (([0] : List Int), ())))))))].getD 0 zMt).2.2.2.1.length) then
            (r14cost (([] : List Cl), (([] : List Tp), (([] : List Int), ([(([] : List Tp), (([] : List Tp), (((5 : Int), ((0 : Int), ())), ([((33 : Int), ((0 : Int), ((0 : Int), ())))], ((0 : Int), ((0 : Int), (([0] : List Int), ())))))))], (([0] : List Int), ((2 : Int), ((0 : Int), ()))))))) (([(([] : List Tp), (([] : List Tp), (((5 : Int), ((0 : Int), ())), ([((33 : Int), ((0 : Int), ((0 : Int), ())))], ((0 : Int), ((0 : Int), (([0] : List Int), ())))))))].getD 0 zMt).2.2.2.1.getD 0 zIns)).bind fun r6 =>
            some (r6.1 == 0, ())
           else none
          else none
         else some (false, ())
        else some (false, ())
       else some (false, ())
      else some (false, ())
     else some (false, ())
    else some (false, ())
   else some (false, ())
  else some (false, ())
 else some (false, ())
def small16Len (m : Im) : Prop := ((m.1.length ≤ lenMax ∧ ∀ x1 : Cl, x1 ∈ m.1 → (True ∧ ((x1.2.1.length ≤ lenMax ∧ ∀ x2 : Tp, x2 ∈ x1.2.1 → (True ∧ (True ∧ True))) ∧ ((x1.2.2.1.length ≤ lenMax ∧ ∀ x2 : Int, x2 ∈ x1.2.2.1 → True) ∧ True)))) ∧ ((m.2.1.length ≤ lenMax ∧ ∀ x1 : Tp, x1 ∈ m.2.1 → (True ∧ (True ∧ True))) ∧ ((m.2.2.1.length ≤ lenMax ∧ ∀ x1 : Int, x1 ∈ m.2.2.1 → True) ∧ ((m.2.2.2.1.length ≤ lenMax ∧ ∀ x1 : Mt, x1 ∈ m.2.2.2.1 → ((x1.1.length ≤ lenMax ∧ ∀ x2 : Tp, x2 ∈ x1.1 → (True ∧ (True ∧ True))) ∧ ((x1.2.1.length ≤ lenMax ∧ ∀ x2 : Tp, x2 ∈ x1.2.1 → (True ∧ (True ∧ True))) ∧ ((True ∧ (True ∧ True)) ∧ ((x1.2.2.2.1.length ≤ lenMax ∧ ∀ x2 : Ins, x2 ∈ x1.2.2.2.1 → (True ∧ (True ∧ (True ∧ True)))) ∧ (True ∧ (True ∧ ((x1.2.2.2.2.2.2.1.length ≤ lenMax ∧ ∀ x2 : Int, x2 ∈ x1.2.2.2.2.2.2.1 → True) ∧ True)))))))) ∧ ((m.2.2.2.2.1.length ≤ lenMax ∧ ∀ x1 : Int, x1 ∈ m.2.2.2.2.1 → True) ∧ (True ∧ (True ∧ True))))))) ∧ True
def small16L1 (m : Im) (s1 : Int × Unit) (rec2 : (Int × Unit) → Option (Bool × Unit)) : Option (Bool × Unit) :=
 bif decide (s1.1 < (m.2.2.2.1.length : Int)) then
  bif decide (0 ≤ s1.1) && decide (s1.1 < m.2.2.2.1.length) then
   bif decide (IntKind.i64.wrap ((IntKind.i64.wrap ((IntKind.i64.wrap (((m.2.2.2.1.getD s1.1.toNat zMt).1.length : Int) + ((m.2.2.2.1.getD s1.1.toNat zMt).2.1.length : Int))) + ((m.2.2.2.1.getD s1.1.toNat zMt).2.2.2.1.length : Int))) + ((m.2.2.2.1.getD s1.1.toNat zMt).2.2.2.2.2.2.1.length : Int)) > 300) then
    some (false, ())
   else rec2 (IntKind.i64.wrap (s1.1 + 1), ())
  else none
 else some (true, ())
def small16N (fuel : Nat) (m : Im) : Option (Bool × Unit) :=
 bif decide (IntKind.i64.wrap ((IntKind.i64.wrap ((IntKind.i64.wrap ((IntKind.i64.wrap ((m.1.length : Int) + (m.2.1.length : Int))) + (m.2.2.1.length : Int))) + (m.2.2.2.1.length : Int))) + (m.2.2.2.2.1.length : Int)) > 100) then
  some (false, ())
 else loopF (small16L1 m) fuel ((0 : Int), ())
def admitAlikeN (m : Im) : Option (Bool × Unit) :=
 bif !(small16 m) then
  awake16N.bind fun r1 =>
  some (r1.1, ())
 else bif !(r5fits m) then
  awake16N.bind fun r2 =>
  some (r2.1, ())
 else 
  (r5encode m).bind fun r3 =>
  bif decide ((r3.1.length : Int) > 8192) then
   awake16N.bind fun r4 =>
   some (r4.1, ())
  else 
   (acheckN m).bind fun r5 =>
   (abytesN r3.1).bind fun r6 =>
   bif r5.2.1 != r6.2.2.1 then
    some (false, ())
   else bif r5.2.1 != 0 then
    awake16N.bind fun r7 =>
    bif r7.1 then
     bif (r5.1.length : Int) == 0 then
      some ((r6.2.1.length : Int) == 0, ())
     else some (false, ())
    else some (false, ())
   else 
    awake16N.bind fun r8 =>
    bif r8.1 then
     bif (r5same r6.1 m) then
      (r8same r5.1 r6.2.1).bind fun r9 =>
      some (r9.1, ())
     else some (false, ())
    else some (false, ())
end
end Go.Pli
