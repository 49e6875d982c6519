/- The laws on instructions, plain. -/
import Derived.Test.YtjgocfgkmcopgaaPliCodec
namespace Go.Pli
open Go Go.PM

theorem awake4_eq : awake4N = some (true, ()) := by kernel_rfl

theorem instKinds_law (i : Ins) : instKindsN i = some (true, ()) := by
  unfold instKindsN
  rw [awake4_eq]
  simp only [Option.bind_some, cond_true, rargs, rinstr, beq_self_eq_true]

/-- An instruction's bytes. -/
def ienc (i : Ins) : List Int := enc i.1.toNat ++ (bif decide (iargs i.1 < 1) then [] else enc i.2.1.toNat ++ (bif decide (iargs i.1 < 2) then [] else enc i.2.2.1.toNat))

theorem iput_eq {b : List Int} {i : Ins} (hb : b.length < 900000) (h1 : i.1 < 9223372036854775808) (h2 : i.2.1 < 9223372036854775808) (h3 : i.2.2.1 < 9223372036854775808) : iput b i = some (b ++ ienc i, ()) := by
  unfold iput ienc
  have l1 := enc_length i.1.toNat
  have l2 := enc_length i.2.1.toNat
  rw [put_eq (by omega) h1]
  simp only [Option.bind_some]
  cases decide (iargs i.1 < 1)
  · simp only [cond_false]
    rw [put_eq (by simp; omega) h2]
    simp only [Option.bind_some]
    cases decide (iargs i.1 < 2)
    · simp only [cond_false]
      rw [put_eq (by simp; omega) h3]
      simp
    · simp
  · simp

theorem ienc_length (i : Ins) : 1 ≤ (ienc i).length ∧ (ienc i).length ≤ 33 := by
  unfold ienc
  have l1 := enc_length i.1.toNat
  have l2 := enc_length i.2.1.toNat
  have l3 := enc_length i.2.2.1.toNat
  have p1 : 1 ≤ (enc i.1.toNat).length := by
    unfold enc
    rw [encF]
    split <;> simp
  cases decide (iargs i.1 < 1) <;> cases decide (iargs i.1 < 2) <;> simp <;> omega

theorem good_range {i : Ins} (h : igood i = true) : (1 ≤ i.1 ∧ i.1 ≤ 34) ∧ (0 ≤ i.2.1 ∧ i.2.1 ≤ 255) ∧ (0 ≤ i.2.2.1 ∧ i.2.2.1 ≤ 255) ∧ (iargs i.1 < 1 → i.2.1 = 0) ∧ (iargs i.1 < 2 → i.2.2.1 = 0) := by
  unfold igood within at h
  have hr : iargs i.1 ≥ 0 → 1 ≤ i.1 ∧ i.1 ≤ 34 := by
    intro h0
    unfold iargs at h0
    by_cases h1 : i.1 < 1
    · have hc : ([1, 3, 4, 18, 19, 22, 23, 29, 30, 31, 34] : List Int).contains i.1 = false := by simp; omega
      have h2 : (i.1 == 27 || (i.1 == 28 || i.1 == 32)) = false := by simp; omega
      rw [hc, h2, decide_eq_true h1, Bool.true_or] at h0
      exact absurd h0 (by decide)
    by_cases h34 : i.1 > 34
    · have hc : ([1, 3, 4, 18, 19, 22, 23, 29, 30, 31, 34] : List Int).contains i.1 = false := by simp; omega
      have h2 : (i.1 == 27 || (i.1 == 28 || i.1 == 32)) = false := by simp; omega
      rw [hc, h2, decide_eq_true h34, Bool.or_true] at h0
      exact absurd h0 (by decide)
    omega
  rcases iargs_range i.1 with ha | ha | ha | ha <;> rw [ha] at h hr ⊢ <;> simp at h hr ⊢ <;> omega

theorem getN_ienc {i : Ins} {rest : List Int} (hg : igood i = true) (hb : bytesB rest = true) : igetN (ienc i ++ rest, false, ()) = some (i, (rest, false, ()), ()) := by
  obtain ⟨⟨o1, o2⟩, ⟨a1, a2⟩, ⟨b1, b2⟩, z1, z2⟩ := good_range hg
  obtain ⟨o, a, b, u⟩ := i
  simp only at o1 o2 a1 a2 b1 b2 z1 z2
  have ho : ((o.toNat : Nat) : Int) = o := by omega
  have haa : ((a.toNat : Nat) : Int) = a := by omega
  have hbb : ((b.toNat : Nat) : Int) = b := by omega
  have eb : bytesB (enc b.toNat) = true := enc_bytes (by omega)
  have ea : bytesB (enc a.toNat) = true := enc_bytes (by omega)
  unfold igetN ienc
  simp only [List.append_assoc]
  by_cases h1 : iargs o < 1
  · have e1 := z1 h1
    have e2 := z2 (by omega)
    subst e1; subst e2
    rw [decide_eq_true h1]
    simp only [cond_true, List.nil_append]
    rw [get_enc (v := o.toNat) (by omega) hb (by omega) (by omega), ho]
    have h2 : ¬ iargs o > 0 := by omega
    have h3 : ¬ iargs o > 1 := by omega
    simp only [Option.bind_some, decide_eq_false h2, decide_eq_false h3, cond_false]
  · rw [decide_eq_false h1]
    simp only [cond_false, List.append_assoc]
    have h2 : iargs o > 0 := by omega
    by_cases h3 : iargs o < 2
    · have e2 := z2 h3
      subst e2
      rw [decide_eq_true h3]
      simp only [cond_true, List.nil_append]
      rw [get_enc (v := o.toNat) (by omega) (by rw [bytesB_append, ea, hb]; rfl) (by omega) (by omega), ho]
      have h4 : ¬ iargs o > 1 := by omega
      simp only [Option.bind_some, decide_eq_true h2, cond_true]
      rw [get_enc (v := a.toNat) (by omega) hb (by omega) (by omega), haa]
      simp only [Option.bind_some, decide_eq_false h4, cond_false]
    · rw [decide_eq_false h3]
      simp only [cond_false]
      rw [get_enc (v := o.toNat) (by omega) (by rw [bytesB_append, ea, bytesB_append, eb, hb]; rfl) (by omega) (by omega), ho]
      have h4 : iargs o > 1 := by omega
      simp only [Option.bind_some, decide_eq_true h2, cond_true]
      rw [get_enc (v := a.toNat) (by omega) (by rw [bytesB_append, eb, hb]; rfl) (by omega) (by omega), haa]
      simp only [Option.bind_some, decide_eq_true h4, cond_true]
      rw [get_enc (v := b.toNat) (by omega) hb (by omega) (by omega), hbb]
      rfl

theorem room_dec {n : Nat} (h : n < 900000) : decide (n < rowMax) = true := decide_eq_true (by simp [rowMax]; omega)

theorem finN_nil (bad : Bool) : finN ([], bad, ()) = some (!bad, ([], bad, ()), ()) := by cases bad <;> rfl

theorem instPuts_law (b : List Int) (i : Ins) : instPutsN b i = some (true, ()) := by
  unfold instPutsN
  rw [awake4_eq]
  by_cases hb : (b.length : Int) > 50
  · rw [decide_eq_true hb]; rfl
  rw [decide_eq_false hb]
  by_cases c1 : i.1 > 1152921504606846976
  · rw [decide_eq_true c1]; rfl
  rw [decide_eq_false c1]
  by_cases c2 : i.2.1 > 1152921504606846976
  · rw [decide_eq_true c2]; rfl
  rw [decide_eq_false c2]
  by_cases c3 : i.2.2.1 > 1152921504606846976
  · rw [decide_eq_true c3]; rfl
  rw [decide_eq_false c3]
  simp only [cond_false, List.nil_append, List.length_nil, Nat.zero_add]
  have l1 := enc_length i.1.toNat
  have l2 := enc_length i.2.1.toNat
  have l3 := enc_length i.2.2.1.toNat
  have hr0 : decide (b.length < rowMax) = true := room_dec (by omega)
  rw [hr0, rbytes_eq (n := i.1) (by omega), rbytes_eq (n := i.2.1) (by omega), rbytes_eq (n := i.2.2.1) (by omega)]
  have hr1 : decide (b.length + (enc i.1.toNat).length < rowMax) = true := room_dec (by omega)
  simp only [cond_true, Option.bind_some, hr1]
  -- what is wanted
  have hwant : ((bif decide (rargs i.1 > 0) then
        bif decide ((b ++ enc i.1.toNat).length + (enc i.2.1.toNat).length < rowMax) then
          some (.inl ((b ++ enc i.1.toNat) ++ enc i.2.1.toNat, ()))
        else none
      else some (.inl (b ++ enc i.1.toNat, ())) : Option ((List Int × Unit) ⊕ (Bool × Unit)))) = some (.inl (b ++ enc i.1.toNat ++ (bif decide (iargs i.1 < 1) then [] else enc i.2.1.toNat), ())) := by
    have hr2 : decide ((b ++ enc i.1.toNat).length + (enc i.2.1.toNat).length < rowMax) = true := room_dec (by simp; omega)
    rw [hr2]
    unfold rargs
    by_cases ha : iargs i.1 > 0
    · rw [decide_eq_true ha, decide_eq_false (by omega : ¬ iargs i.1 < 1)]; rfl
    · rw [decide_eq_false ha, decide_eq_true (by omega : iargs i.1 < 1)]; simp
  rw [hwant]
  simp only [Option.bind_some]
  have hwant2 : ∀ X : List Int, X.length < 900 → ((bif decide (rargs i.1 > 1) then
          bif decide (X.length + (enc i.2.2.1.toNat).length < rowMax) then
            some (.inl (X ++ enc i.2.2.1.toNat, ()))
          else none
        else some (.inl (X, ())) : Option ((List Int × Unit) ⊕ (Bool × Unit)))) = some (.inl (X ++ (bif decide (iargs i.1 < 2) then [] else enc i.2.2.1.toNat), ())) := by
    intro X hX
    have hr2 : decide (X.length + (enc i.2.2.1.toNat).length < rowMax) = true := room_dec (by omega)
    rw [hr2]
    unfold rargs
    by_cases ha : iargs i.1 > 1
    · rw [decide_eq_true ha, decide_eq_false (by omega : ¬ iargs i.1 < 2)]; rfl
    · rw [decide_eq_false ha, decide_eq_true (by omega : iargs i.1 < 2)]; simp
  have hXl : (b ++ enc i.1.toNat ++ (bif decide (iargs i.1 < 1) then [] else enc i.2.1.toNat)).length < 900 := by
    cases decide (iargs i.1 < 1) <;> simp <;> omega
  rw [hwant2 _ hXl]
  simp only [Option.bind_some]
  rw [iput_eq (by omega) (by omega) (by omega) (by omega)]
  have hsame : b ++ enc i.1.toNat ++ (bif decide (iargs i.1 < 1) then [] else enc i.2.1.toNat) ++ (bif decide (iargs i.1 < 2) then [] else enc i.2.2.1.toNat) = b ++ ienc i := by
    unfold ienc
    by_cases ha : iargs i.1 < 1
    · rw [decide_eq_true ha, decide_eq_true (by omega : iargs i.1 < 2)]; simp
    · rw [decide_eq_false ha]; simp
  rw [hsame]
  have hle : ¬ (((b ++ ienc i).length : Int) < (b.length : Int)) := by simp; omega
  simp only [Option.bind_some, decide_eq_false hle, cond_false, beq_self_eq_true, Bool.not_true]
  cases hg : rinstr i
  · rfl
  · have hl1 : decide (0 ≤ (b.length : Int)) = true := decide_eq_true (by omega)
    have hl2 : decide ((b.length : Int) ≤ ((b ++ ienc i).length : Int)) = true := decide_eq_true (by simp; omega)
    have hl3 : decide (((b ++ ienc i).length : Int) ≤ ((b ++ ienc i).length : Int)) = true := decide_eq_true (by omega)
    rw [hl1, hl2, hl3]
    simp only [Bool.not_true, cond_false, Bool.and_self, cond_true, List.take_length, List.drop_left, newN]
    have hget := getN_ienc (rest := []) hg rfl
    rw [List.append_nil] at hget
    rw [hget]
    simp only [Option.bind_some, beq_self_eq_true, Bool.and_self, cond_true, finN_nil]
    rfl

end Go.Pli

namespace Go.Pli
open Go Go.PM

theorem get_bad (l : List Int) (n : Int) : getN (l, true, ()) n = some (0, (l, true, ()), ()) := rfl

theorem get_inv {l : List Int} {n : Int} (hb : bytesB l = true) (h0 : 0 ≤ n) (h1 : n < 9223372036854775808) : ∃ (v : Int) (l' : List Int) (bad : Bool), getN (l, false, ()) n = some (v, (l', bad, ()), ()) ∧ bytesB l' = true ∧
    (bad = true ∨ (bad = false ∧ 0 ≤ v ∧ v ≤ n ∧ v.toNat < 128 ^ 5 ∧ l = enc v.toNat ++ l')) := by
  have hbs : bytesB (l.take 5) = true := bytesB_take 5 hb
  unfold getN next
  simp only [hbs, cond_true, cond_false]
  have hw : IntKind.u64.wrap n = n := by rw [IntKind.wrap_u64]; omega
  have hn0 : decide (n < 0) = false := decide_eq_false (by omega)
  cases hd : decF 5 0 0 l with
  | none => exact ⟨0, l, true, rfl, hb, .inl rfl⟩
  | some x =>
    obtain ⟨y, m, ok⟩ := x
    cases ok with
    | false => exact ⟨0, l.drop m, true, rfl, bytesB_drop m hb, .inl rfl⟩
    | true =>
      obtain ⟨v, m', e1, e2, e3, e4, e5, e6, e7⟩ := decF_inv 5 0 0 l y m hbs hd
      have hy : y = v := by omega
      have hm : m = m' := by omega
      subst hy; subst hm
      simp only [Option.bind_some, Bool.not_true, cond_false, hn0, hw]
      by_cases hgt : (y : Int) > n
      · rw [decide_eq_true hgt]
        exact ⟨0, l.drop m, true, rfl, bytesB_drop m hb, .inl rfl⟩
      · rw [decide_eq_false hgt]
        have hw2 : IntKind.i64.wrap (y : Int) = y := w64 (by omega) (by omega)
        refine ⟨(y : Int), l.drop m, false, by simp only [cond_false, hw2], bytesB_drop m hb, .inr ⟨rfl, by omega, by omega, by omega, ?_⟩⟩
        have : enc ((y : Int)).toNat = l.take m := by
          rw [Int.toNat_natCast, e5]
          exact encF_le e6 (by omega)
        rw [this, List.take_append_drop]

theorem iget_inv {l : List Int} (hb : bytesB l = true) : ∃ (i : Ins) (l' : List Int) (bad : Bool), igetN (l, false, ()) = some (i, (l', bad, ()), ()) ∧ bytesB l' = true ∧ (bad = true ∨ (bad = false ∧ l = ienc i ++ l' ∧ (i.1 = 0 ∨ igood i = true) ∧ i.1 < 1000 ∧ i.2.1 < 1000 ∧ i.2.2.1 < 1000)) := by
  obtain ⟨v, l1, bad, g1, g2, g3⟩ := get_inv (l := l) (n := 34) hb (by omega) (by omega)
  unfold igetN
  rw [g1]
  simp only [Option.bind_some]
  rcases g3 with g3 | ⟨g3, v0, v1, v2, v3⟩
  · subst g3
    rw [get_bad]
    simp only [Option.bind_some]
    rw [get_bad]
    cases decide (iargs v > 0) <;> cases decide (iargs v > 1) <;> exact ⟨_, l1, true, rfl, g2, .inl rfl⟩
  · subst g3
    have hwith : ∀ {x c a : Int}, (c ≤ a → x = 0) → 0 ≤ x → x ≤ 255 → within x c a = true := by
      intro x c a h1 h2 h3
      unfold within
      by_cases h : a ≥ c
      · rw [decide_eq_true h]; simpa using h1 h
      · rw [decide_eq_false h, decide_eq_true (show x ≥ 0 from h2), decide_eq_true h3]; rfl
    have hgood : ∀ {x y : Int}, v ≠ 0 → (iargs v < 1 → x = 0) → 0 ≤ x → x ≤ 255 → (iargs v < 2 → y = 0) → 0 ≤ y → y ≤ 255 → igood (v, x, y, ()) = true := by
      intro x y hv a1 a2 a3 b1 b2 b3
      have hia : iargs v ≥ 0 := by
        unfold iargs
        rw [decide_eq_false (by omega : ¬ v < 1), decide_eq_false (by omega : ¬ v > 34)]
        cases ([1, 3, 4, 18, 19, 22, 23, 29, 30, 31, 34] : List Int).contains v <;> cases (v == 27 || (v == 28 || v == 32)) <;> decide
      unfold igood
      simp only
      rw [decide_eq_true hia, hwith (fun h => a1 (by omega)) a2 a3, hwith (fun h => b1 (by omega)) b2 b3]
      rfl
    by_cases h1 : iargs v < 1
    · rw [decide_eq_false (by omega : ¬ iargs v > 0), decide_eq_false (by omega : ¬ iargs v > 1)]
      refine ⟨(v, 0, 0, ()), l1, false, rfl, g2, .inr ⟨rfl, ?_, ?_, by simp only; omega⟩⟩
      · unfold ienc
        simp only [decide_eq_true h1, cond_true, List.append_nil]
        exact v3
      · by_cases hv : v = 0
        · exact .inl hv
        · exact .inr (hgood hv (fun _ => rfl) (by omega) (by omega) (fun _ => rfl) (by omega) (by omega))
    · have hv : v ≠ 0 := fun h => by subst h; exact h1 (by decide)
      rw [decide_eq_true (by omega : iargs v > 0)]
      obtain ⟨x, l2, bad2, a1, a2, a3⟩ := get_inv (l := l1) (n := 255) g2 (by omega) (by omega)
      rw [a1]
      simp only [Option.bind_some, cond_true]
      rcases a3 with a3 | ⟨a3, x0, x1, x2, x3⟩
      · subst a3
        rw [get_bad]
        cases decide (iargs v > 1) <;> exact ⟨_, l2, true, rfl, a2, .inl rfl⟩
      · subst a3
        by_cases h2 : iargs v < 2
        · rw [decide_eq_false (by omega : ¬ iargs v > 1)]
          refine ⟨(v, x, 0, ()), l2, false, rfl, a2, .inr ⟨rfl, ?_, .inr (hgood hv (fun h => absurd h h1) x0 x1 (fun _ => rfl) (by omega) (by omega)), by simp only; omega⟩⟩
          unfold ienc
          simp only [decide_eq_false h1, decide_eq_true h2, cond_true, cond_false, List.append_nil, List.append_assoc]
          rw [← x3]
          exact v3
        · rw [decide_eq_true (by omega : iargs v > 1)]
          obtain ⟨y, l3, bad3, b1, b2, b3⟩ := get_inv (l := l2) (n := 255) a2 (by omega) (by omega)
          rw [b1]
          rcases b3 with b3 | ⟨b3, y0, y1, y2, y3⟩
          · subst b3
            exact ⟨_, l3, true, rfl, b2, .inl rfl⟩
          · subst b3
            refine ⟨(v, x, y, ()), l3, false, rfl, b2, .inr ⟨rfl, ?_, .inr (hgood hv (fun h => absurd h h1) x0 x1 (fun h => absurd h h2) y0 y1), by simp only; omega⟩⟩
            unfold ienc
            simp only [decide_eq_false h1, decide_eq_false h2, cond_false, List.append_assoc]
            rw [← y3, ← x3]
            exact v3

theorem instGets_tail (s : List Int) (hb : bytesB s = true) : ((igetN (newN s)).bind fun r3 =>
    let r4 := badN r3.2.1
    bif r4.1 then
      awake4N.bind fun r5 =>
      some (r5.1, ())
    else
      (iput ([] : List Int) r3.1).bind fun r6 =>
      awake4N.bind fun r7 =>
      bif r7.1 then
        bif decide ((r6.1.length : Int) ≤ (s.length : Int)) then
          bif decide ((0 : Int) ≤ (r6.1.length : Int)) && decide ((r6.1.length : Int) ≤ (s.length : Int)) then
            bif (strOfNums ((s.take r6.1.length).drop 0)).toList == (strOfNums r6.1).toList then
              (finN r4.2.1).bind fun r8 =>
              bif r8.1 == ((r6.1.length : Int) == (s.length : Int)) then
                bif r3.1.1 == 0 then
                  some (true, ())
                else some ((igood r3.1), ())
              else some (false, ())
            else some (false, ())
          else none
        else some (false, ())
      else some (false, ())) = some (true, ()) := by
  obtain ⟨i, l', bad, h1, h2, h3⟩ := iget_inv hb
  have hn : newN s = (s, false, ()) := rfl
  rw [awake4_eq, hn, h1]
  simp only [Option.bind_some, badN]
  rcases h3 with h3 | ⟨h3, e1, e2, e3, e4, e5⟩
  · subst h3; rfl
  · subst h3
    simp only [cond_false]
    rw [iput_eq (by simp) (by omega) (by omega) (by omega)]
    have hle : ((ienc i).length : Int) ≤ (s.length : Int) := by rw [e1]; simp; omega
    have htake : s.take (ienc i).length = ienc i := by rw [e1]; simp
    simp only [Option.bind_some, List.nil_append, cond_true, decide_eq_true hle, decide_eq_true (show (0 : Int) ≤ ((ienc i).length : Int) by omega), Bool.and_self, List.drop_zero, htake, beq_self_eq_true]
    have hfin : finN (l', false, ()) = some ((l'.length : Int) == 0, (l', false, ()), ()) := rfl
    rw [hfin]
    have heq : ((l'.length : Int) == 0) = (((ienc i).length : Int) == (s.length : Int)) := by
      rw [e1, List.length_append]
      by_cases h : l'.length = 0
      · rw [h]; simp
      · have a1 : ((l'.length : Int) == 0) = false := by simpa using h
        have a2 : (((ienc i).length : Int) == (((ienc i).length + l'.length : Nat) : Int)) = false := by simp; omega
        rw [a1, a2]
    simp only [Option.bind_some, heq, beq_self_eq_true, cond_true]
    rcases e2 with e2 | e2
    · rw [e2]; rfl
    · rw [e2]; cases i.1 == 0 <;> rfl

theorem instGets_law (b : List Int) (hb : bytesB b = true) : instGetsN b = some (true, ()) := by
  unfold instGetsN
  by_cases h : (b.length : Int) > 50
  · have h2 : (50 : Int) ≤ (b.length : Int) := by omega
    rw [decide_eq_true h, decide_eq_true h2]
    simp only [cond_true, Option.bind_some, List.drop_zero]
    exact instGets_tail (b.take 50) (bytesB_take 50 hb)
  · rw [decide_eq_false h]
    simp only [cond_false, Option.bind_some]
    exact instGets_tail b hb

end Go.Pli

namespace Go.Pli
open Go Go.PM

def flat (l : List Ins) : List Int := (l.filter igood).flatMap ienc

theorem flat_cons_good {i : Ins} {l : List Ins} (h : igood i = true) : flat (i :: l) = ienc i ++ flat l := by simp [flat, h]
theorem flat_cons_bad {i : Ins} {l : List Ins} (h : igood i = false) : flat (i :: l) = flat l := by simp [flat, h]

theorem enc_one {v : Nat} (h : v < 128) : (enc v).length = 1 := by unfold enc; rw [encF_small h]; rfl
theorem enc_two {v : Nat} (h : v < 16384) : 1 ≤ (enc v).length ∧ (enc v).length ≤ 2 := by
  have : enc v = encF 1 v := encF_le (by omega) (by omega)
  rw [this, encF]
  split <;> simp [encF]

theorem good_len {i : Ins} (h : igood i = true) : 1 ≤ (ienc i).length ∧ (ienc i).length ≤ 5 := by
  obtain ⟨o, a, b, -⟩ := good_range h
  have l1 := enc_one (v := i.1.toNat) (by omega)
  have l2 := enc_two (v := i.2.1.toNat) (by omega)
  have l3 := enc_two (v := i.2.2.1.toNat) (by omega)
  unfold ienc
  cases decide (iargs i.1 < 1) <;> cases decide (iargs i.1 < 2) <;> simp <;> omega

theorem ienc_bytes {i : Ins} (h : igood i = true) : bytesB (ienc i) = true := by
  obtain ⟨o, a, b, -⟩ := good_range h
  have e1 : bytesB (enc i.1.toNat) = true := enc_bytes (by omega)
  have e2 : bytesB (enc i.2.1.toNat) = true := enc_bytes (by omega)
  have e3 : bytesB (enc i.2.2.1.toNat) = true := enc_bytes (by omega)
  unfold ienc
  rw [bytesB_append, e1]
  cases decide (iargs i.1 < 1)
  · simp only [cond_false, bytesB_append, e2]
    cases decide (iargs i.1 < 2)
    · simp only [cond_false, e3]; rfl
    · rfl
  · rfl

theorem flat_bytes : ∀ l : List Ins, bytesB (flat l) = true
  | [] => rfl
  | i :: l => by
    cases h : igood i
    · rw [flat_cons_bad h]; exact flat_bytes l
    · rw [flat_cons_good h, bytesB_append, ienc_bytes h, flat_bytes l]; rfl

theorem flat_len : ∀ l : List Ins, (l.filter igood).length ≤ (flat l).length ∧ (flat l).length ≤ 5 * (l.filter igood).length ∧ (l.filter igood).length ≤ l.length
  | [] => by simp [flat]
  | i :: l => by
    have ih := flat_len l
    cases h : igood i
    · rw [flat_cons_bad h, List.filter_cons_of_neg (by simp [h])]
      simp only [List.length_cons]; omega
    · have := good_len h
      rw [flat_cons_good h, List.filter_cons_of_pos h]
      simp only [List.length_append, List.length_cons]; omega

theorem at_get {α : Type} {l pre m : List α} {x d : α} (hl : l.take 60 = pre ++ x :: m) : pre.length < l.length ∧ pre.length < 60 ∧ l.getD pre.length d = x := by
  have h1 : (l.take 60)[pre.length]? = some x := by rw [hl]; simp
  rw [List.getElem?_take] at h1
  split at h1
  · rename_i hlt
    refine ⟨(List.getElem?_eq_some_iff.1 h1).1, hlt, ?_⟩
    rw [List.getD, h1]; rfl
  · cases h1

theorem at_end {α : Type} {l pre : List α} (hl : l.take 60 = pre) : ¬ (pre.length < l.length ∧ pre.length < 60) := by
  rw [← hl, List.length_take]
  omega

theorem row_put (l : List Ins) : ∀ (m pre : List Ins) (b : List Int) (n : Int), l.take 60 = pre ++ m → b.length ≤ 100 * pre.length → 0 ≤ n → n ≤ pre.length →
    loopF (instRowL1 l) (m.length + 1) (b, n, (pre.length : Int), ()) = some (.inl (b ++ flat m, n + ((m.filter igood).length : Int), ()))
  | [], pre, b, n, hl, hb, hn, hn2 => by
    rw [List.append_nil] at hl
    have he := at_end hl
    rw [List.length_nil, loopF, instRowL1]
    by_cases h : pre.length < l.length
    · have h2 : ¬ ((pre.length : Int) < 60) := by omega
      simp [h, h2, flat]
    · have h2 : ¬ ((pre.length : Int) < (l.length : Int)) := by omega
      simp [h, flat]
  | x :: m, pre, b, n, hl, hb, hn, hn2 => by
    obtain ⟨h1, h2, h3⟩ := at_get (d := ((0 : Int), ((0 : Int), ((0 : Int), ())))) hl
    have hl' : l.take 60 = (pre ++ [x]) ++ m := by rw [hl]; simp
    have hw : IntKind.i64.wrap ((pre.length : Int) + 1) = (((pre ++ [x]).length : Nat) : Int) := by rw [w64 (by omega) (by omega)]; simp
    have hwn : IntKind.i64.wrap (n + 1) = n + 1 := w64 (by omega) (by omega)
    rw [List.length_cons, loopF, instRowL1]
    simp only [Int.toNat_natCast, h3, hw, hwn, decide_eq_true (show (pre.length : Int) < (l.length : Int) by omega), decide_eq_true (show (pre.length : Int) < 60 by omega), decide_eq_true (show (0 : Int) ≤ (pre.length : Int) by omega), Bool.and_self, cond_true]
    cases hg : igood x
    · have ih := row_put l m (pre ++ [x]) b n hl' (by simp; omega) hn (by simp; omega)
      simp only [cond_false]
      rw [ih, flat_cons_bad hg, List.filter_cons_of_neg (by simp [hg])]
    · obtain ⟨g1, g2, g3, -⟩ := good_range hg
      have hlen := good_len hg
      simp only [cond_true]
      rw [iput_eq (by omega) (by omega) (by omega) (by omega)]
      have ih := row_put l m (pre ++ [x]) (b ++ ienc x) (n + 1) hl' (by simp; omega) (by omega) (by simp; omega)
      simp only [Option.bind_some]
      rw [ih, flat_cons_good hg, List.filter_cons_of_pos hg]
      simp only [List.append_assoc, List.length_cons]
      congr 4
      omega

theorem row_get (l : List Ins) : ∀ (m pre : List Ins), l.take 60 = pre ++ m →
    loopF (instRowL2 l) (m.length + 1) ((pre.length : Int), (flat m, false, ()), ()) = some (.inl (([], false, ()), ()))
  | [], pre, hl => by
    rw [List.append_nil] at hl
    have he := at_end hl
    rw [List.length_nil, loopF, instRowL2]
    by_cases h : pre.length < l.length
    · have h2 : ¬ ((pre.length : Int) < 60) := by omega
      simp [h, h2, flat]
    · have h2 : ¬ ((pre.length : Int) < (l.length : Int)) := by omega
      simp [h, flat]
  | x :: m, pre, hl => by
    obtain ⟨h1, h2, h3⟩ := at_get (d := ((0 : Int), ((0 : Int), ((0 : Int), ())))) hl
    have hl' : l.take 60 = (pre ++ [x]) ++ m := by rw [hl]; simp
    have ih := row_get l m (pre ++ [x]) hl'
    have hw : IntKind.i64.wrap ((pre.length : Int) + 1) = (((pre ++ [x]).length : Nat) : Int) := by rw [w64 (by omega) (by omega)]; simp
    rw [List.length_cons, loopF, instRowL2]
    simp only [Int.toNat_natCast, h3, hw, decide_eq_true (show (pre.length : Int) < (l.length : Int) by omega), decide_eq_true (show (pre.length : Int) < 60 by omega), decide_eq_true (show (0 : Int) ≤ (pre.length : Int) by omega), Bool.and_self, cond_true]
    cases hg : igood x
    · simp only [cond_false]
      rw [flat_cons_bad hg]
      exact ih
    · simp only [cond_true]
      rw [flat_cons_good hg, getN_ienc hg (flat_bytes m)]
      simp only [Option.bind_some, beq_self_eq_true, Bool.and_self, Bool.not_true, cond_false]
      exact ih

theorem instRow_law (l : List Ins) : ∃ k, instRowN k l = some (true, ()) := by
  refine ⟨(l.take 60).length + 1, ?_⟩
  unfold instRowN
  have h1 := row_put l (l.take 60) [] [] 0 rfl (by simp) (by omega) (by simp)
  have h2 := row_get l (l.take 60) [] rfl
  simp only [List.length_nil, Int.natCast_zero, List.nil_append, Int.zero_add] at h1 h2
  have h1' : loopF (instRowL1 l) ((l.take 60).length + 1) (([] : List Int), ((0 : Int), ((0 : Int), ()))) = some (.inl (flat (l.take 60), (((l.take 60).filter igood).length : Int), ())) := h1
  rw [h1']
  have h2' : loopF (instRowL2 l) ((l.take 60).length + 1) ((0 : Int), newN (flat (l.take 60)), ()) = some (.inl (([], false, ()), ())) := h2
  simp only [Option.bind_some]
  rw [h2', awake4_eq]
  have hlen := flat_len (l.take 60)
  have h60 : (l.take 60).length ≤ 60 := by simp; omega
  have hw : IntKind.i64.wrap ((5 : Int) * (((l.take 60).filter igood).length : Int)) = 5 * (((l.take 60).filter igood).length : Int) := w64 (by omega) (by omega)
  have hf : finN ([], false, ()) = some (true, ([], false, ()), ()) := rfl
  simp only [Option.bind_some, cond_true, hf, hw]
  rw [decide_eq_true (show ((flat (l.take 60)).length : Int) ≥ (((l.take 60).filter igood).length : Int) by omega), decide_eq_true (show ((flat (l.take 60)).length : Int) ≤ 5 * (((l.take 60).filter igood).length : Int) by omega)]
  rfl

end Go.Pli
