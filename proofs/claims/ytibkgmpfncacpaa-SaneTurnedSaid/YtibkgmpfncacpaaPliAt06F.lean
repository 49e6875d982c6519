/- SaneTurned by hand: the machine's runs, from states that are laid by hand. -/
import Derived.Test.YtibkgmpfncacpaaPliAt06E
namespace Go.Pli
open Go Go.PM Go.Proofs
theorem get1_some {e : Env} {f pc a b : Int} (h : get1 e = some (f, pc, a, b, ())) : e (.slot 5) = .bptr 1000005 0 ∧ asT (.int .u8) (e (.slot 1)) = some f ∧ asT (.int .u8) (e (.slot 2)) = some pc ∧ asT (.int .u8) (e (.slot 3)) = some a ∧ asT (.int .u8) (e (.slot 4)) = some b := by
 unfold get1 at h
 generalize he : e (.slot 5) = s5 at h ⊢
 cases s5 <;> try cases h
 rename_i i o
 cases hc : Nat.beq i 1000005 && Nat.beq o 0 <;> simp only [hc, cond_true, cond_false] at h
 ·cases h
 rw [Bool.and_eq_true] at hc
 obtain rfl := Nat.eq_of_beq_eq_true hc.1
 obtain rfl := Nat.eq_of_beq_eq_true hc.2
 cases h1 : asT (.int .u8) (e (.slot 1)) with
 | none => rw [h1] at h; cases h
 | some x1 =>
 cases h2 : asT (.int .u8) (e (.slot 2)) with
 | none => rw [h1, h2] at h; cases h
 | some x2 =>
 cases h3 : asT (.int .u8) (e (.slot 3)) with
 | none => rw [h1, h2, h3] at h; cases h
 | some x3 =>
 cases h4 : asT (.int .u8) (e (.slot 4)) with
 | none => rw [h1, h2, h3, h4] at h; cases h
 | some x4 =>
 rw [h1, h2, h3, h4] at h
 have h := Option.some.inj h
 have e1 : x1 = f := congrArg (·.1) h
 have e2 : x2 = pc := congrArg (·.2.1) h
 have e3 : x3 = a := congrArg (·.2.2.1) h
 have e4 : x4 = b := congrArg (·.2.2.2.1) h
 subst e1; subst e2; subst e3; subst e4
 exact ⟨rfl, rfl, rfl, rfl, rfl⟩
noncomputable section
theorem reg1 : st1 = .seq (hd4 st1) st3 := by kernel_rfl
theorem segT1 {W : World} {a : Act} {Q : Exit → Act → World → Prop} {m : Im} {f pc x y : Int} {fix : Nat → Nat → Prop} {B : Nat → Bx} (hL : Laid W 84 a fix B (eT m f pc x y))
  (hret : ∀ (a' : Act) (W' : World), a'.defers = [] → a'.tmps.getD 10 undef = .bool true → Elder W W' → Q .ret a' W')
  (h : small6 m = true → r5sane m = 0 → m.2.2.2.1 ≠ [] → ∀ (a' : Act) (W' : World), a'.tmps.size = 84 → a'.defers = [] → a'.tmps.getD 1 undef = .int .u8 f → a'.tmps.getD 2 undef = .int .u8 pc → a'.tmps.getD 3 undef = .int .u8 x → a'.tmps.getD 4 undef = .int .u8 y → a'.tmps.getD 5 undef = .pointer (some ⟨(B 1000005).b, 0, none⟩) → Elder W W' → st3.wp Try.prog Q a' W') :
  st1.wp Try.prog Q a W := by
 have hex := execT1 m f pc x y
 rw [awake6_eq] at hex
 have hcase : exec GT AT 1 (hd4 st1) (eT m f pc x y) kT1 = some (.inl (true, ())) ∨ (small6 m = true ∧ r5sane m = 0 ∧ m.2.2.2.1 ≠ [] ∧ exec GT AT 1 (hd4 st1) (eT m f pc x y) kT1 = some (.inr (f, pc, x, y, ()))) := by
  rw [hex]
  cases h1 : small6 m
  ·exact .inl rfl
  cases h2 : (r5sane m != 0)
  ·cases h3 : ((m.2.2.2.1.length : Int) == 0)
   ·refine .inr ⟨rfl, by simpa using h2, fun e => ?_, rfl⟩
    rw [e] at h3
    cases h3
   ·exact .inl rfl
  ·exact .inl rfl
 rw [reg1]
 apply wp_seq
 rcases hcase with hx | ⟨c1, c2, c3, hx⟩
 ·refine exec_sound (A := AT) (fuel := 1) GTok (hd4 st1) hL.1 hx fun ex e1 a1 W1 g1 hk _ s1 => ?_
  cases ex with
  | exit _ => cases hk
  | normal =>
   have hk : (get1 e1).map Sum.inr = some (Sum.inl (true, ())) := hk
   cases hg : get1 e1 <;> rw [hg] at hk <;> cases hk
  | ret =>
   have hk : (asT .bool (e1 (.slot 10))).map (fun r => Sum.inl (r, ())) = some (Sum.inl (true, ())) := hk
   cases hg : asT .bool (e1 (.slot 10)) with
   | none => rw [hg] at hk; cases hk
   | some r =>
    rw [hg] at hk
    have hr : r = true := by
     have := Option.some.inj hk
     injection this with this
     exact congrArg (·.1) this
    subst hr
    exact hret a1 W1 s1.defers (bool_eq s1 hg) (St.elder s1)
 ·refine exec_sound (A := AT) (fuel := 1) GTok (hd4 st1) hL.1 hx fun ex e1 a1 W1 g1 hk _ s1 => ?_
  cases ex with
  | exit _ => cases hk
  | ret =>
   have hk : (asT .bool (e1 (.slot 10))).map (fun r => Sum.inl (r, ())) = some (Sum.inr (f, pc, x, y, ())) := hk
   cases hg : asT .bool (e1 (.slot 10)) <;> rw [hg] at hk <;> cases hk
  | normal =>
   have hk : (get1 e1).map Sum.inr = some (Sum.inr (f, pc, x, y, ())) := hk
   cases hg : get1 e1 with
   | none => rw [hg] at hk; cases hk
   | some z =>
    rw [hg] at hk
    have hz := Option.some.inj hk
    injection hz with hz
    subst hz
    obtain ⟨q5, q1, q2, q3, q4⟩ := get1_some hg
    exact h c1 c2 c3 a1 W1 s1.tmps s1.defers (int_eq s1 q1) (int_eq s1 q2) (int_eq s1 q3) (int_eq s1 q4) (ptr_eq s1 (by omega) q5) (St.elder s1)
theorem segT11 {W : World} {a : Act} {Q : Exit → Act → World → Prop} {fix : Nat → Nat → Prop} {B : Nat → Bx} (hL : Laid W 84 a fix B (eE true))
  (hret : ∀ (a' : Act) (W' : World), a'.defers = [] → a'.tmps.getD 10 undef = .bool true → Elder W W' → Q .ret a' W') : st11.wp Try.prog Q a W := by
 have hx := execE true
 rw [awake6_eq] at hx
 refine exec_sound (A := AT) (fuel := 1) GTok st11 hL.1 hx fun ex e1 a1 W1 g1 hk _ s1 => ?_
 cases ex with
 | exit _ => cases hk
 | normal => cases hk
 | ret =>
  have hk : (asT .bool (e1 (.slot 10))).map (fun r => (r, ())) = some (true, ()) := hk
  cases hg : asT .bool (e1 (.slot 10)) with
  | none => rw [hg] at hk; cases hk
  | some r =>
   rw [hg] at hk
   have hr : r = true := congrArg (·.1) (Option.some.inj hk)
   subst hr
   exact hret a1 W1 s1.defers (bool_eq s1 hg) (St.elder s1)
theorem get9_some {e : Env} {r : Bool} (h : get9 e = some (r, ())) : (e (.slot 11) = .hdr 1000011 0 ∧ ∃ t m v, e (.box 1000011) = .lrow t m 0 v) ∧ (e (.slot 14) = .hdr 1000014 0 ∧ ∃ t m v, e (.box 1000014) = .lrow t m 0 v) ∧ asT .bool (e (.slot 15)) = some r := by
 unfold get9 at h
 generalize he : e (.slot 11) = s11 at h ⊢
 generalize he' : e (.slot 14) = s14 at h ⊢
 cases s11 <;> try cases h
 cases s14 <;> try cases h
 rename_i i2 h2 i3 h3
 cases hc : Nat.beq i2 1000011 && (Nat.beq h2 0 && (Nat.beq i3 1000014 && Nat.beq h3 0)) <;> simp only [hc, cond_true, cond_false] at h
 ·cases h
 simp only [Bool.and_eq_true] at hc
 obtain rfl := Nat.eq_of_beq_eq_true hc.1
 obtain rfl := Nat.eq_of_beq_eq_true hc.2.1
 obtain rfl := Nat.eq_of_beq_eq_true hc.2.2.1
 obtain rfl := Nat.eq_of_beq_eq_true hc.2.2.2
 split at h
 ·rename_i t1 n1 v1 w1 t2 n2 v2 w2 hb1 hb2
  cases hc2 : Nat.beq v1 0 && Nat.beq v2 0 <;> simp only [hc2, cond_true, cond_false] at h
  ·cases h
  simp only [Bool.and_eq_true] at hc2
  obtain rfl := Nat.eq_of_beq_eq_true hc2.1
  obtain rfl := Nat.eq_of_beq_eq_true hc2.2
  cases h15 : asT .bool (e (.slot 15)) with
  | none => rw [h15] at h; cases h
  | some x =>
   rw [h15] at h
   have : x = r := congrArg (·.1) (Option.some.inj h)
   subst this
   exact ⟨⟨rfl, _, _, _, hb1⟩, ⟨rfl, _, _, _, hb2⟩, rfl⟩
 ·cases h
theorem segT9 {W : World} {a : Act} {Q : Exit → Act → World → Prop} {m : Im} {fix : Nat → Nat → Prop} {B : Nat → Bx} (hL : Laid W 84 a fix B (eD m))
  (h : ∀ (a' : Act) (W' : World), a'.tmps.size = 84 → a'.defers = [] → a'.tmps.getD 11 undef = (B 1000011).h → a'.tmps.getD 14 undef = (B 1000014).h → a'.tmps.getD 15 undef = .bool true → Elder W W' → st10.wp Try.prog Q a' W') : st9.wp Try.prog Q a W := by
 have hx : exec GT AT 1 (hd4 st9) (eD m) kT9 = some (true, ()) := by
  rw [execD]
  have : r5sane m = scheck m := rfl
  rw [this, beq_self_eq_true]
 rw [reg9]
 apply wp_seq
 refine exec_sound (A := AT) (fuel := 1) GTok (hd4 st9) hL.1 hx fun ex e1 a1 W1 g1 hk _ s1 => ?_
 cases ex with
 | exit _ => cases hk
 | ret => cases hk
 | normal =>
  obtain ⟨⟨q1, _, _, _, b1⟩, ⟨q2, _, _, _, b2⟩, q3⟩ := get9_some hk
  exact h a1 W1 s1.tmps s1.defers (told_eq s1 (by omega) q1 b1) (told_eq s1 (by omega) q2 b2) (bool_eq s1 q3) (St.elder s1)
end
end Go.Pli
