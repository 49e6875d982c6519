/- The laws on bits, plain: the numbers of any bytes. -/
import Derived.Test.YtifcchajbahdiaaPliLaw02C
namespace Go.Pli
open Go Go.PM

theorem read_both {l : List Int} {n : Int} (hb : bytesB l = true) (h0 : 0 ≤ n) (h1 : n < 9223372036854775808) :
    (∃ v m : Nat, rnext l = some ((v : Int), (m : Int), ()) ∧ 1 ≤ m ∧ m ≤ l.length ∧ l.take m = enc v ∧ v < 128 ^ 5 ∧ (v : Int) ≤ n ∧ getN (l, false, ()) n = some ((v : Int), (l.drop m, false, ()), ())) ∨
    (∃ (x y : Int) (l' : List Int), rnext l = some (x, y, ()) ∧ ¬ (y > 0 ∧ x ≤ n) ∧ getN (l, false, ()) n = some (0, (l', true, ()), ())) := by
  have hbs : bytesB (l.take 5) = true := bytesB_take 5 hb
  unfold getN next rnext
  simp only [hbs, cond_true, cond_false]
  have hw : IntKind.u64.wrap n = n := by rw [IntKind.wrap_u64]; omega
  have hn0 : decide (n < 0) = false := decide_eq_false (by omega)
  cases hd : decF 5 0 0 l with
  | none => exact .inr ⟨0, 0, l, rfl, by omega, rfl⟩
  | some x =>
    obtain ⟨y, m, ok⟩ := x
    cases ok with
    | false => exact .inr ⟨0, 0, l.drop m, rfl, by omega, rfl⟩
    | true =>
      obtain ⟨v, m', e1, e2, e3, e4, e5, e6, e7⟩ := decF_inv 5 0 0 l y m hbs hd
      have hy : y = v := by omega
      have hm : m = m' := by omega
      subst hy; subst hm
      simp only [Option.bind_some, Bool.not_true, cond_false, hn0, hw]
      by_cases hgt : (y : Int) > n
      · rw [decide_eq_true hgt]
        exact .inr ⟨_, _, l.drop m, rfl, by omega, rfl⟩
      · rw [decide_eq_false hgt]
        have hw2 : IntKind.i64.wrap (y : Int) = y := w64 (by omega) (by omega)
        refine .inl ⟨y, m, rfl, e3, e4, ?_, by omega, by omega, by simp only [cond_false, hw2]⟩
        rw [e5]
        exact (encF_le e6 (by omega)).symm

theorem glong_bad (l : List Int) : glongN (l, true, ()) = some (0, (l, true, ()), ()) := by
  have h : getN (l, true, ()) (4294967295 : Int) = some (((0 : Nat) : Int), (l, true, ()), ()) := rfl
  unfold glongN
  rw [h]
  simp only [Option.bind_some, unzig 0 (by omega)]
  rfl

def unz (v : Nat) : Int := if v % 2 = 0 then ((v / 2 : Nat) : Int) else -((v / 2 : Nat) : Int) - 1

theorem glong_of {l l' : List Int} {bad : Bool} {v : Nat} (h : getN (l, false, ()) (4294967295 : Int) = some ((v : Int), (l', bad, ()), ())) (hv : v < 4294967296) : glongN (l, false, ()) = some (unz v, (l', bad, ()), ()) := by
  unfold glongN
  rw [h]
  simp only [Option.bind_some, unzig v hv]
  rfl

theorem zg_unz {v : Nat} (hv : v < 4294967296) : zg (unz v) = v ∧ -2147483648 ≤ unz v ∧ unz v ≤ 2147483647 := by
  unfold zg unz
  refine ⟨?_, ?_, ?_⟩ <;> split <;> (try split) <;> omega

structure GInv (s : List Int) (at_ : Nat) (bad : Bool) (r : Rd) : Prop where
  le : at_ ≤ s.length
  rd : r = (if bad then r.1 else s.drop at_, bad, ())

theorem ginv_good {s : List Int} {at_ : Nat} (h : at_ ≤ s.length) : GInv s at_ false (s.drop at_, false, ()) := ⟨h, rfl⟩
theorem ginv_bad {s : List Int} {at_ : Nat} (l' : List Int) (h : at_ ≤ s.length) : GInv s at_ true (l', true, ()) := ⟨h, rfl⟩

def u16s (l : List Int) : Prop := ∀ u ∈ l, 0 ≤ u ∧ u < 65536

theorem gets_step (l s : List Int) (hs : bytesB s = true) (hsl : s.length ≤ 200) (rec4 : Int × Bool × Int × Rd × Unit → Option (Bool × Unit)) (pre m : List Int) (u : Int) (hl : l.take 60 = pre ++ u :: m) (hu : 0 ≤ u ∧ u < 65536)
    (at_ : Nat) (bad : Bool) (r : Rd) (hi : GInv s at_ bad r) : ∃ (at' : Nat) (bad' : Bool) (r' : Rd), GInv s at' bad' r' ∧ bitsGetsL1 l (s, ()) ((at_ : Int), bad, (pre.length : Int), r, ()) rec4 = rec4 ((at' : Int), bad', ((pre ++ [u]).length : Int), r', ()) := by
  obtain ⟨h1, h2, h3⟩ := at_getN (d := (0 : Int)) hl
  have hw : IntKind.i64.wrap ((pre.length : Int) + 1) = (((pre ++ [u]).length : Nat) : Int) := by rw [w64 (by omega) (by omega)]; simp
  have hwu : IntKind.i64.wrap u = u := w64 (by omega) (by omega)
  have hle := hi.le
  have hbd : bytesB (s.drop at_) = true := bytesB_drop at_ hs
  have hne : ∀ (at' : Nat) (bad' : Bool) (r' : Rd), GInv s at' bad' r' → (badN r').1 = bad' ∧ (badN r').2.1 = r' ∧ finN r' = some (!bad' && decide (at' = s.length), r', ()) := by
    intro at' bad' r' h
    have hr := h.rd
    cases bad'
    · simp only [Bool.false_eq_true, if_false] at hr
      subst hr
      refine ⟨rfl, rfl, ?_⟩
      show some (((s.drop at').length : Int) == 0, _, ()) = _
      have : (((s.drop at').length : Int) == 0) = decide (at' = s.length) := by
        have hle2 := h.le
        by_cases hh : at' = s.length
        · subst hh; simp
        · rw [decide_eq_false hh]; simp; omega
      rw [this]; rfl
    · simp only [if_true] at hr
      rw [hr]
      exact ⟨rfl, rfl, rfl⟩
  have hlen : decide ((pre.length : Int) < (l.length : Int)) = true := decide_eq_true (by omega)
  have h60 : decide ((pre.length : Int) < 60) = true := decide_eq_true (by omega)
  have h0 : decide ((0 : Int) ≤ (pre.length : Int)) = true := decide_eq_true (by omega)
  have ha0 : decide ((0 : Int) ≤ (at_ : Int)) = true := decide_eq_true (by omega)
  have ha1 : decide ((at_ : Int) ≤ (s.length : Int)) = true := decide_eq_true (by omega)
  have ha2 : decide ((s.length : Int) ≤ (s.length : Int)) = true := decide_eq_true (by omega)
  have hfin : ∀ (at' : Nat) (bad' : Bool) (r' : Rd), GInv s at' bad' r' → (let r17 := badN r'
        bif !(r17.1 == bad') then
            some (.inr (false, ()))
          else
            (finN r17.2.1).bind fun r18 =>
            bif !bad' then
              bif !(r18.1 == ((at' : Int) == (s.length : Int))) then
                some (.inr (false, ()))
              else some (.inl ((at' : Int), bad', r18.2.1, ()))
            else bif !(r18.1 == false) then
              some (.inr (false, ()))
            else some (.inl ((at' : Int), bad', r18.2.1, ())) : Option ((Int × Bool × Rd × Unit) ⊕ (Bool × Unit))) = some (.inl ((at' : Int), bad', r', ())) := by
    intro at' bad' r' h
    obtain ⟨e1, e2, e3⟩ := hne at' bad' r' h
    have hat : ((at' : Int) == (s.length : Int)) = decide (at' = s.length) := by
      by_cases hh : at' = s.length
      · subst hh; simp
      · rw [decide_eq_false hh]; simp; omega
    simp only [e1, e2, e3, beq_self_eq_true, Bool.not_true, cond_false, Option.bind_some, hat]
    cases bad' <;> simp
  rw [bitsGetsL1]
  simp only [hlen, h60, h0, ha0, ha1, ha2, Bool.and_self, cond_true, List.take_length, Int.toNat_natCast, h3, hw, hwu]
  cases bad with
  | true =>
    have hr := hi.rd
    simp only [if_true] at hr
    obtain ⟨x, y, hrn⟩ : ∃ x y, rnext (s.drop at_) = some (x, y, ()) := by
      rcases read_both (n := 0) hbd (by omega) (by omega) with ⟨v, m', e, _⟩ | ⟨x, y, _, e, _⟩
      · exact ⟨_, _, e⟩
      · exact ⟨_, _, e⟩
    refine ⟨at_, true, r, hi, ?_⟩
    rw [hr]
    simp only [hrn, Option.bind_some, glong_bad, Bool.not_true, cond_false]
    have hg : getN (r.1, true, ()) u = some (0, (r.1, true, ()), ()) := rfl
    rw [hg]
    have hf := hfin at_ true (r.1, true, ()) (by rw [← hr]; exact hi)
    cases u == 0
    · simp only [cond_false, Option.bind_some, bne_self_eq_false]
      exact (congrArg (fun z => Option.bind z _) hf).trans rfl
    · simp only [cond_true, Option.bind_some, bne_self_eq_false, cond_false]
      exact (congrArg (fun z => Option.bind z _) hf).trans rfl
  | false =>
    have hr := hi.rd
    simp only [Bool.false_eq_true, if_false] at hr
    rw [hr]
    have hcut : ∀ m' : Nat, (s.take (at_ + m')).drop at_ = (s.drop at_).take m' := fun m' => by rw [List.drop_take]; simp
    by_cases hz : u = 0
    · have hz' : (u == 0) = true := by simpa using hz
      rw [hz']
      rcases read_both (n := 4294967295) hbd (by omega) (by omega) with ⟨v, m', e1, e2, e3, e4, e5, e6, e7⟩ | ⟨x, y, l', e1, e2, e3⟩
      · have hv : v < 4294967296 := by omega
        obtain ⟨z1, z2, z3⟩ := zg_unz hv
        rw [List.length_drop] at e3
        refine ⟨at_ + m', false, (s.drop (at_ + m'), false, ()), ginv_good (by omega), ?_⟩
        have hwa : IntKind.i64.wrap ((at_ : Int) + (m' : Int)) = ((at_ + m' : Nat) : Int) := by rw [← Int.natCast_add]; exact w64 (by omega) (by omega)
        have hdd : (s.drop at_).drop m' = s.drop (at_ + m') := by rw [List.drop_drop]
        rw [hdd] at e7
        simp only [e1, Option.bind_some, cond_true, glong_of e7 hv, Bool.not_false, decide_eq_true (show (m' : Int) > 0 by omega), decide_eq_true (show (v : Int) < 4294967296 by omega), rsignedN_eq z2 z3, z1, hwa, Int.toNat_natCast, hcut, e4,
          decide_eq_true (show (at_ : Int) ≤ ((at_ + m' : Nat) : Int) by omega), decide_eq_true (show ((at_ + m' : Nat) : Int) ≤ (s.length : Int) by omega), Bool.and_self, beq_self_eq_true, Bool.not_true, cond_false]
        have hf := hfin (at_ + m') false (s.drop (at_ + m'), false, ()) (ginv_good (by omega))
        exact (congrArg (fun z => Option.bind z _) hf).trans rfl
      · refine ⟨at_, true, (l', true, ()), ginv_bad l' hle, ?_⟩
        have hcond : (bif decide (y > 0) then some (Sum.inl (decide (x < 4294967296), ())) else some (Sum.inl (false, ())) : Option ((Bool × Unit) ⊕ ((Int × Bool × Rd × Unit) ⊕ ((Int × Bool × Rd × Unit) ⊕ (Bool × Unit))))) = some (Sum.inl (false, ())) := by
          by_cases hy : y > 0
          · rw [decide_eq_true hy, decide_eq_false (show ¬ (x < 4294967296) by omega)]; rfl
          · rw [decide_eq_false hy]; rfl
        have hg := glong_of (v := 0) e3 (by omega)
        simp only [e1, Option.bind_some, cond_true, hg, Bool.not_false]
        rw [hcond]
        have hu0 : (unz 0 != 0) = false := rfl
        simp only [Option.bind_some, cond_false, hu0]
        have hf := hfin at_ true (l', true, ()) (ginv_bad l' hle)
        exact (congrArg (fun z => Option.bind z _) hf).trans rfl
    · have hz' : (u == 0) = false := by simpa using hz
      rw [hz']
      rcases read_both (n := u) hbd (by omega) (by omega) with ⟨v, m', e1, e2, e3, e4, e5, e6, e7⟩ | ⟨x, y, l', e1, e2, e3⟩
      · rw [List.length_drop] at e3
        refine ⟨at_ + m', false, (s.drop (at_ + m'), false, ()), ginv_good (by omega), ?_⟩
        have hwa : IntKind.i64.wrap ((at_ : Int) + (m' : Int)) = ((at_ + m' : Nat) : Int) := by rw [← Int.natCast_add]; exact w64 (by omega) (by omega)
        have hdd : (s.drop at_).drop m' = s.drop (at_ + m') := by rw [List.drop_drop]
        rw [hdd] at e7
        simp only [e1, Option.bind_some, cond_false, cond_true, e7, Bool.not_false, decide_eq_true (show (m' : Int) > 0 by omega), decide_eq_true e6, hwa, bne_self_eq_false]
        have hf := hfin (at_ + m') false (s.drop (at_ + m'), false, ()) (ginv_good (by omega))
        exact (congrArg (fun z => Option.bind z _) hf).trans rfl
      · refine ⟨at_, true, (l', true, ()), ginv_bad l' hle, ?_⟩
        have hcond : (bif decide (y > 0) then some (Sum.inl (decide (x ≤ u), ())) else some (Sum.inl (false, ())) : Option ((Bool × Unit) ⊕ ((Int × Bool × Rd × Unit) ⊕ ((Int × Bool × Rd × Unit) ⊕ (Bool × Unit))))) = some (Sum.inl (false, ())) := by
          by_cases hy : y > 0
          · rw [decide_eq_true hy, decide_eq_false (show ¬ (x ≤ u) by omega)]; rfl
          · rw [decide_eq_false hy]; rfl
        simp only [e1, Option.bind_some, cond_false, cond_true, e3, Bool.not_false]
        rw [hcond]
        simp only [Option.bind_some, cond_false, bne_self_eq_false]
        have hf := hfin at_ true (l', true, ()) (ginv_bad l' hle)
        exact (congrArg (fun z => Option.bind z _) hf).trans rfl

theorem gets_loop (l s : List Int) (hu : u16s l) (hs : bytesB s = true) (hsl : s.length ≤ 200) : ∀ (m pre : List Int) (at_ : Nat) (bad : Bool) (r : Rd), l.take 60 = pre ++ m → GInv s at_ bad r →
    loopF (bitsGetsL1 l (s, ())) (m.length + 1) ((at_ : Int), bad, (pre.length : Int), r, ()) = some (true, ())
  | [], pre, at_, bad, r, hl, hi => by
    rw [List.append_nil] at hl
    have he := at_endN hl
    rw [List.length_nil, loopF, bitsGetsL1, awake2_eq]
    by_cases h : pre.length < l.length
    · have h2 : ¬ ((pre.length : Int) < 60) := by omega
      simp [h, h2]
    · simp [h]
  | u :: m, pre, at_, bad, r, hl, hi => by
    have hx : u ∈ l := List.mem_of_mem_take (i := 60) (by rw [hl]; simp)
    obtain ⟨at', bad', r', hi', he⟩ := gets_step l s hs hsl (loopF (bitsGetsL1 l (s, ())) (m.length + 1)) pre m u hl (hu u hx) at_ bad r hi
    rw [List.length_cons, loopF, he]
    exact gets_loop l s hu hs hsl m (pre ++ [u]) at' bad' r' (by rw [hl]; simp) hi'

theorem bitsGets_law (b l : List Int) (hb : bytesB b = true) (hu : u16s l) : ∃ k, bitsGetsN k b l = some (true, ()) := by
  refine ⟨(l.take 60).length + 1, ?_⟩
  have key : ∀ s : List Int, bytesB s = true → s.length ≤ 200 → loopF (bitsGetsL1 l (s, ())) ((l.take 60).length + 1) ((0 : Int), false, ((0 : Int), (newN s), ())) = some (true, ()) := fun s hs hsl =>
    gets_loop l s hu hs hsl (l.take 60) [] 0 false (s, false, ()) rfl ⟨by omega, by simp⟩
  unfold bitsGetsN
  by_cases h : (b.length : Int) > 200
  · have h2 : (200 : Int) ≤ (b.length : Int) := by omega
    rw [decide_eq_true h, decide_eq_true h2]
    simp only [cond_true, Option.bind_some, List.drop_zero]
    exact key (b.take 200) (bytesB_take 200 hb) (by simp; omega)
  · rw [decide_eq_false h]
    simp only [cond_false, Option.bind_some]
    exact key b hb (by omega)

end Go.Pli
