/- The laws on instructions, plain: got from any bytes. -/
import Derived.Test.YtifcchajbahdiaaPliLaw04
namespace Go.Pli
open Go Go.PM

theorem get_bad (l : List Int) (n : Int) : getN (l, true, ()) n = some (0, (l, true, ()), ()) := rfl

theorem get_inv {l : List Int} {n : Int} (hb : bytesB l = true) (h0 : 0 ≤ n) (h1 : n < 9223372036854775808) : ∃ (v : Int) (l' : List Int) (bad : Bool), getN (l, false, ()) n = some (v, (l', bad, ()), ()) ∧ bytesB l' = true ∧
    (bad = true ∨ (bad = false ∧ 0 ≤ v ∧ v ≤ n ∧ v.toNat < 128 ^ 5 ∧ l = enc v.toNat ++ l')) := by
  have hbs : bytesB (l.take 5) = true := bytesB_take 5 hb
  unfold getN next
  simp only [hbs, cond_true, cond_false]
  have hw : IntKind.u64.wrap n = n := by rw [IntKind.wrap_u64]; omega
  have hn0 : decide (n < 0) = false := decide_eq_false (by omega)
  cases hd : decF 5 0 0 l with
  | none => exact ⟨0, l, true, rfl, hb, .inl rfl⟩
  | some x =>
    obtain ⟨y, m, ok⟩ := x
    cases ok with
    | false => exact ⟨0, l.drop m, true, rfl, bytesB_drop m hb, .inl rfl⟩
    | true =>
      obtain ⟨v, m', e1, e2, e3, e4, e5, e6, e7⟩ := decF_inv 5 0 0 l y m hbs hd
      have hy : y = v := by omega
      have hm : m = m' := by omega
      subst hy; subst hm
      simp only [Option.bind_some, Bool.not_true, cond_false, hn0, hw]
      by_cases hgt : (y : Int) > n
      · rw [decide_eq_true hgt]
        exact ⟨0, l.drop m, true, rfl, bytesB_drop m hb, .inl rfl⟩
      · rw [decide_eq_false hgt]
        have hw2 : IntKind.i64.wrap (y : Int) = y := w64 (by omega) (by omega)
        refine ⟨(y : Int), l.drop m, false, by simp only [cond_false, hw2], bytesB_drop m hb, .inr ⟨rfl, by omega, by omega, by omega, ?_⟩⟩
        have : enc ((y : Int)).toNat = l.take m := by
          rw [Int.toNat_natCast, e5]
          exact encF_le e6 (by omega)
        rw [this, List.take_append_drop]

theorem iget_inv {l : List Int} (hb : bytesB l = true) : ∃ (i : Ins) (l' : List Int) (bad : Bool), igetN (l, false, ()) = some (i, (l', bad, ()), ()) ∧ bytesB l' = true ∧ (bad = true ∨ (bad = false ∧ l = ienc i ++ l' ∧ (i.1 = 0 ∨ igood i = true) ∧ i.1 < 1000 ∧ i.2.1 < 1000 ∧ i.2.2.1 < 1000)) := by
  obtain ⟨v, l1, bad, g1, g2, g3⟩ := get_inv (l := l) (n := 34) hb (by omega) (by omega)
  unfold igetN
  rw [g1]
  simp only [Option.bind_some]
  rcases g3 with g3 | ⟨g3, v0, v1, v2, v3⟩
  · subst g3
    rw [get_bad]
    simp only [Option.bind_some]
    rw [get_bad]
    cases decide (iargs v > 0) <;> cases decide (iargs v > 1) <;> exact ⟨_, l1, true, rfl, g2, .inl rfl⟩
  · subst g3
    have hwith : ∀ {x c a : Int}, (c ≤ a → x = 0) → 0 ≤ x → x ≤ 255 → within x c a = true := by
      intro x c a h1 h2 h3
      unfold within
      by_cases h : a ≥ c
      · rw [decide_eq_true h]; simpa using h1 h
      · rw [decide_eq_false h, decide_eq_true (show x ≥ 0 from h2), decide_eq_true h3]; rfl
    have hgood : ∀ {x y : Int}, v ≠ 0 → (iargs v < 1 → x = 0) → 0 ≤ x → x ≤ 255 → (iargs v < 2 → y = 0) → 0 ≤ y → y ≤ 255 → igood (v, x, y, ()) = true := by
      intro x y hv a1 a2 a3 b1 b2 b3
      have hia : iargs v ≥ 0 := by
        unfold iargs
        rw [decide_eq_false (by omega : ¬ v < 1), decide_eq_false (by omega : ¬ v > 34)]
        cases ([1, 3, 4, 18, 19, 22, 23, 29, 30, 31, 34] : List Int).contains v <;> cases (v == 27 || (v == 28 || v == 32)) <;> decide
      unfold igood
      simp only
      rw [decide_eq_true hia, hwith (fun h => a1 (by omega)) a2 a3, hwith (fun h => b1 (by omega)) b2 b3]
      rfl
    by_cases h1 : iargs v < 1
    · rw [decide_eq_false (by omega : ¬ iargs v > 0), decide_eq_false (by omega : ¬ iargs v > 1)]
      refine ⟨(v, 0, 0, ()), l1, false, rfl, g2, .inr ⟨rfl, ?_, ?_, by simp only; omega⟩⟩
      · unfold ienc
        simp only [decide_eq_true h1, cond_true, List.append_nil]
        exact v3
      · by_cases hv : v = 0
        · exact .inl hv
        · exact .inr (hgood hv (fun _ => rfl) (by omega) (by omega) (fun _ => rfl) (by omega) (by omega))
    · have hv : v ≠ 0 := fun h => by subst h; exact h1 (by decide)
      rw [decide_eq_true (by omega : iargs v > 0)]
      obtain ⟨x, l2, bad2, a1, a2, a3⟩ := get_inv (l := l1) (n := 255) g2 (by omega) (by omega)
      rw [a1]
      simp only [Option.bind_some, cond_true]
      rcases a3 with a3 | ⟨a3, x0, x1, x2, x3⟩
      · subst a3
        rw [get_bad]
        cases decide (iargs v > 1) <;> exact ⟨_, l2, true, rfl, a2, .inl rfl⟩
      · subst a3
        by_cases h2 : iargs v < 2
        · rw [decide_eq_false (by omega : ¬ iargs v > 1)]
          refine ⟨(v, x, 0, ()), l2, false, rfl, a2, .inr ⟨rfl, ?_, .inr (hgood hv (fun h => absurd h h1) x0 x1 (fun _ => rfl) (by omega) (by omega)), by simp only; omega⟩⟩
          unfold ienc
          simp only [decide_eq_false h1, decide_eq_true h2, cond_true, cond_false, List.append_nil, List.append_assoc]
          rw [← x3]
          exact v3
        · rw [decide_eq_true (by omega : iargs v > 1)]
          obtain ⟨y, l3, bad3, b1, b2, b3⟩ := get_inv (l := l2) (n := 255) a2 (by omega) (by omega)
          rw [b1]
          rcases b3 with b3 | ⟨b3, y0, y1, y2, y3⟩
          · subst b3
            exact ⟨_, l3, true, rfl, b2, .inl rfl⟩
          · subst b3
            refine ⟨(v, x, y, ()), l3, false, rfl, b2, .inr ⟨rfl, ?_, .inr (hgood hv (fun h => absurd h h1) x0 x1 (fun h => absurd h h2) y0 y1), by simp only; omega⟩⟩
            unfold ienc
            simp only [decide_eq_false h1, decide_eq_false h2, cond_false, List.append_assoc]
            rw [← y3, ← x3]
            exact v3

theorem instGets_tail (s : List Int) (hb : bytesB s = true) : ((igetN (newN s)).bind fun r3 =>
    let r4 := badN r3.2.1
    bif r4.1 then
      awake4N.bind fun r5 =>
      some (r5.1, ())
    else
      (iput ([] : List Int) r3.1).bind fun r6 =>
      awake4N.bind fun r7 =>
      bif r7.1 then
        bif decide ((r6.1.length : Int) ≤ (s.length : Int)) then
          bif decide ((0 : Int) ≤ (r6.1.length : Int)) && decide ((r6.1.length : Int) ≤ (s.length : Int)) then
            bif (strOfNums ((s.take r6.1.length).drop 0)).toList == (strOfNums r6.1).toList then
              (finN r4.2.1).bind fun r8 =>
              bif r8.1 == ((r6.1.length : Int) == (s.length : Int)) then
                bif r3.1.1 == 0 then
                  some (true, ())
                else some ((igood r3.1), ())
              else some (false, ())
            else some (false, ())
          else none
        else some (false, ())
      else some (false, ())) = some (true, ()) := by
  obtain ⟨i, l', bad, h1, h2, h3⟩ := iget_inv hb
  have hn : newN s = (s, false, ()) := rfl
  rw [awake4_eq, hn, h1]
  simp only [Option.bind_some, badN]
  rcases h3 with h3 | ⟨h3, e1, e2, e3, e4, e5⟩
  · subst h3; rfl
  · subst h3
    simp only [cond_false]
    rw [iput_eq (by simp) (by omega) (by omega) (by omega)]
    have hle : ((ienc i).length : Int) ≤ (s.length : Int) := by rw [e1]; simp; omega
    have htake : s.take (ienc i).length = ienc i := by rw [e1]; simp
    simp only [Option.bind_some, List.nil_append, cond_true, decide_eq_true hle, decide_eq_true (show (0 : Int) ≤ ((ienc i).length : Int) by omega), Bool.and_self, List.drop_zero, htake, beq_self_eq_true]
    have hfin : finN (l', false, ()) = some ((l'.length : Int) == 0, (l', false, ()), ()) := rfl
    rw [hfin]
    have heq : ((l'.length : Int) == 0) = (((ienc i).length : Int) == (s.length : Int)) := by
      rw [e1, List.length_append]
      by_cases h : l'.length = 0
      · rw [h]; simp
      · have a1 : ((l'.length : Int) == 0) = false := by simpa using h
        have a2 : (((ienc i).length : Int) == (((ienc i).length + l'.length : Nat) : Int)) = false := by simp; omega
        rw [a1, a2]
    simp only [Option.bind_some, heq, beq_self_eq_true, cond_true]
    rcases e2 with e2 | e2
    · rw [e2]; rfl
    · rw [e2]; cases i.1 == 0 <;> rfl

theorem instGets_law (b : List Int) (hb : bytesB b = true) : instGetsN b = some (true, ()) := by
  unfold instGetsN
  by_cases h : (b.length : Int) > 50
  · have h2 : (50 : Int) ≤ (b.length : Int) := by omega
    rw [decide_eq_true h, decide_eq_true h2]
    simp only [cond_true, Option.bind_some, List.drop_zero]
    exact instGets_tail (b.take 50) (bytesB_take 50 hb)
  · rw [decide_eq_false h]
    simp only [cond_false, Option.bind_some]
    exact instGets_tail b hb

end Go.Pli
