/- Whether an image is taken in: it is told of every image; more room does no harm. -/
import Derived.Test.YtjgocfgkmcopgaaPliTar
import Derived.Test.YtjgocfgkmcopgaaPliReach
import Derived.Test.YtjgocfgkmcopgaaPliTy
import Derived.Test.YtjgocfgkmcopgaaPliNt
namespace Go.Pli
open Go Go.PM
theorem compactI_le : ∀ l : List Int, (compactI l).length ≤ l.length
 | [] => Nat.le_refl _
 | a :: l => by
  have := compactI_le l
  unfold compactI
  cases h : compactI l with
  | nil => simp
  | cons b r =>
   rw [h] at this
   simp only [List.length_cons] at this ⊢
   cases a == b <;> simp only [cond_true, cond_false, List.length_cons] <;> omega
theorem ofAll_row {m : Im} (hs : saneP m = true) {e : List Int} (he : e ∈ ofAll m) : e.length ≤ 1000 ∧ ∀ x ∈ e, inM m x = true := by
 obtain ⟨f, hf, rfl⟩ := List.mem_map.1 he
 have hfm : inM m f = true := inM_iff.2 (mem_ints.1 hf)
 have ht := tgtOk_of (saneP_of hs).2
 constructor
 ·unfold ofB
  rw [hfm]
  simp only [cond_true]
  have h1 := compactI_le (sortL (allT m f))
  have h2 := allT_len (saneP_of hs).1 hfm
  rw [(perm_sortL _).length_eq] at h1
  omega
 ·intro x hx
  exact tgt_in ht hfm ((mem_ofB hfm).1 hx)
theorem edOk_of {m : Im} (hs : saneP m = true) : edOk m = true := by
 simp only [edOk, List.all_eq_true, Bool.and_eq_true]
 intro e he
 obtain ⟨h1, h2⟩ := ofAll_row hs he
 exact ⟨okL_of (by omega), h2⟩
theorem aneeds_ends {m : Im} (hs : saneP m = true) {l : List (List Sh)} (hl : okSS l = true) : ∃ r, aneeds m l = some r := by
 have h12 := (fit_of (saneP_of hs).1).methods
 have hlen := ofAll_len m
 obtain ⟨r, hr, R⟩ := rings_parts (ED := ofAll m) (by omega) fun e he => (ofAll_row hs he).1
 have hfew := R.few
 have hall : (okL r && r.all (fun p => okL p && p.all (inM m))) = true := by
  simp only [Bool.and_eq_true, List.all_eq_true]
  refine ⟨okL_of (by omega), fun p hp => ?_⟩
  have h4 : ∀ x ∈ p, inM m x = true := fun x hx => by
   obtain ⟨x0, x1⟩ := (R.all x).1 (List.mem_flatten.2 ⟨p, hp, hx⟩)
   exact inM_iff.2 ⟨x0, by omega⟩
  have := nodup_sub_len (a := p) (b := ints m.2.2.2.1.length) ((R.srt p hp).imp fun h => by omega) fun x hx => mem_ints.2 (inM_iff.1 (h4 x hx))
  rw [ints_len] at this
  exact ⟨okL_of (by omega), h4⟩
 unfold aneeds dbound
 rw [hs, hl, edOk_of hs, hr]
 simp only [Bool.and_self, cond_true, Option.bind_some, hall]
 exact ⟨_, rfl⟩
structure Told (m : Im) (t : List (List Sh) × Int × Int × Int × Unit) (n : Int × Int × Int × Unit) (p : Int × Int × Unit) : Prop where
 check : tcheck m = some t
 ok : okSS t.1 = true
 needs : aneeds m t.1 = some n
 pot : pcheck m t.1 = some p
theorem told {m : Im} (hs : saneP m = true) : ∃ t n p, Told m t n p := by
 obtain ⟨t, h1, h2, -⟩ := tcheck_ends hs
 obtain ⟨n, h3⟩ := aneeds_ends hs h2
 exact ⟨t, n, potM m t.1 (ints m.2.2.2.1.length), h1, h2, h3, by unfold pcheck; rw [hs, h2]; rfl⟩
def room (m : Im) (s h : Int) : Im := (m.1, m.2.1, m.2.2.1, m.2.2.2.1, m.2.2.2.2.1, s, h, ())
end Go.Pli

namespace Go.Pli
open Go Go.PM
section
variable {m : Im} {l : List (List Sh)} {r : List (List Int)}
def timesM (m : Im) (g : Int) : Int := bif wayM m g.toNat g.toNat then (mtOf m g).2.2.2.2.1 else 1
def inRing (m : Im) (f g : Int) : Bool := !(g != f && !(wayM m f.toNat g.toNat && wayM m g.toNat f.toNat))
def ownN (m : Im) (l : List (List Sh)) (f : Int) : List Int → Int
 | [] => 0
 | g :: gs => (bif inRing m f g then timesM m g * frameB m l g else 0) + ownN m l f gs
theorem frame_range (hs : saneP m = true) (hd : ∀ f, 0 ≤ deepB l f ∧ deepB l f ≤ 8) (f : Int) : 0 ≤ frameB m l f ∧ frameB m l f ≤ 19 := by
 unfold frameB
 cases hf : inM m f
 ·exact ⟨Int.le_refl _, show (0 : Int) ≤ 19 by decide⟩
 ·have := sane_locals hs hf
  have := hd f
  simp only [cond_true]
  omega
theorem times_range (hs : saneP m = true) {f : Int} (hf : inM m f = true) (hsh : shallow m = false) : 1 ≤ timesM m f ∧ timesM m f ≤ 8 := by
 unfold timesM
 cases hw : wayM m f.toNat f.toNat <;> simp only [cond_true, cond_false]
 ·exact ⟨Int.le_refl _, by decide⟩
 ·obtain ⟨h0, h1⟩ := inM_iff.1 hf
  have h2 := (mth_of ((fit_of (saneP_of hs).1).mts _ (mtOf_mem h0 h1))).2.2.2.2.1
  refine ⟨?_, h2.2⟩
  have : ¬ (mtOf m f).2.2.2.2.1 < 1 := fun hlt => by
   have : shallow m = true := List.any_eq_true.2 ⟨f, mem_ints.2 ⟨h0, h1⟩, by rw [Bool.and_eq_true]; exact ⟨hw, decide_eq_true hlt⟩⟩
   rw [hsh] at this; cases this
  omega
theorem beyR_range (W : Nat → Nat → Bool) {out : List Int} {B : Int} (g : Int) : ∀ (ts : List Int) (b : Int), 0 ≤ b → b ≤ B → (∀ to ∈ ts, W to.toNat g.toNat = false → out.getD to.toNat 0 ≤ B) → b ≤ beyR W out g ts b ∧ beyR W out g ts b ≤ B
 | [], b, _, h1, _ => ⟨Int.le_refl _, h1⟩
 | to :: ts, b, h0, h1, h2 => by
  unfold beyR
  cases hc : !W to.toNat g.toNat && decide (out.getD to.toNat 0 > b) <;> simp only [cond_true, cond_false]
  ·exact beyR_range W g ts b h0 h1 fun x hx => h2 x (List.mem_cons_of_mem _ hx)
  ·simp only [Bool.and_eq_true, Bool.not_eq_true', decide_eq_true_eq] at hc
   have h3 := h2 to (List.mem_cons_self ..) hc.1
   obtain ⟨i1, i2⟩ := beyR_range W g ts (out.getD to.toNat 0) (by omega) h3 fun x hx => h2 x (List.mem_cons_of_mem _ hx)
   exact ⟨by omega, i2⟩
theorem beyR_ge (W : Nat → Nat → Bool) {out : List Int} (g : Int) : ∀ (ts : List Int) (b : Int), b ≤ beyR W out g ts b ∧ ∀ to ∈ ts, W to.toNat g.toNat = false → out.getD to.toNat 0 ≤ beyR W out g ts b
 | [], b => ⟨Int.le_refl _, fun _ h => by cases h⟩
 | to :: ts, b => by
  unfold beyR
  cases hc : !W to.toNat g.toNat && decide (out.getD to.toNat 0 > b) <;> simp only [cond_true, cond_false]
  ·obtain ⟨i1, i2⟩ := beyR_ge W g ts b
   refine ⟨i1, fun x hx hw => ?_⟩
   rcases List.mem_cons.1 hx with rfl | hx
   ·rw [hw] at hc
    have : ¬ out.getD x.toNat 0 > b := by simpa using hc
    omega
   ·exact i2 x hx hw
  ·simp only [Bool.and_eq_true, decide_eq_true_eq] at hc
   obtain ⟨i1, i2⟩ := beyR_ge W (out := out) g ts (out.getD to.toNat 0)
   refine ⟨by omega, fun x hx hw => ?_⟩
   rcases List.mem_cons.1 hx with rfl | hx
   ·exact i1
   ·exact i2 x hx hw
theorem sumR_own (hs : saneP m = true) (hd : ∀ f, 0 ≤ deepB l f ∧ deepB l f ≤ 8) (hsh : shallow m = false) (f : Int) (out : List Int) : ∀ (gs : List Int) (a b : Int), (∀ g ∈ gs, inM m g = true) → 0 ≤ a → a + 152 * (gs.length : Int) ≤ 1000000 →
  (sumR m l (wayM m) f out gs a b).1 = a + ownN m l f gs ∧ 0 ≤ ownN m l f gs ∧ ownN m l f gs ≤ 152 * (gs.length : Int)
 | [], a, b, _, _, _ => by simp [sumR, ownN]
 | g :: gs, a, b, hgs, h0, h1 => by
  have hg := hgs g (List.mem_cons_self ..)
  have hgs' := fun x hx => hgs x (List.mem_cons_of_mem _ hx)
  rw [List.length_cons] at h1 ⊢
  have hfr := frame_range hs hd g
  have htm := times_range hs hg hsh
  have hp : 0 ≤ timesM m g * frameB m l g ∧ timesM m g * frameB m l g ≤ 152 := by
   refine ⟨Int.mul_nonneg (by omega) hfr.1, ?_⟩
   have := Int.mul_le_mul htm.2 hfr.2 hfr.1 (by omega)
   omega
  unfold sumR ownN inRing
  cases hc : g != f && !(wayM m f.toNat g.toNat && wayM m g.toNat f.toNat) <;> simp only [Bool.not_true, Bool.not_false, cond_true, cond_false]
  ·have e : IntKind.i64.wrap (a + IntKind.i64.wrap ((bif wayM m g.toNat g.toNat then (mtOf m g).2.2.2.2.1 else 1) * frameB m l g)) = a + timesM m g * frameB m l g := by
    show IntKind.i64.wrap (a + IntKind.i64.wrap (timesM m g * frameB m l g)) = _
    rw [wrap_small (n := timesM m g * frameB m l g) (by omega) (by omega), wrap_small (by omega) (by omega)]
   rw [e]
   obtain ⟨i1, i2, i3⟩ := sumR_own hs hd hsh f out gs (a + timesM m g * frameB m l g) (beyR (wayM m) out g ((edgesB m).getD g.toNat []) b) hgs' (by omega) (by omega)
   exact ⟨by omega, by omega, by omega⟩
  ·obtain ⟨i1, i2, i3⟩ := sumR_own hs hd hsh f out gs a b hgs' h0 (by omega)
   exact ⟨by omega, by omega, by omega⟩
theorem ownN_ge (hs : saneP m = true) (hd : ∀ f, 0 ≤ deepB l f ∧ deepB l f ≤ 8) (hsh : shallow m = false) {f : Int} : ∀ (gs : List Int), (∀ g ∈ gs, inM m g = true) → f ∈ gs → frameB m l f ≤ ownN m l f gs
 | [], _, h => by cases h
 | g :: gs, hgs, h => by
  have hgs' := fun x hx => hgs x (List.mem_cons_of_mem _ hx)
  have hpos : ∀ gs : List Int, (∀ g ∈ gs, inM m g = true) → 0 ≤ ownN m l f gs := fun gs => by
   induction gs with
   | nil => intro _; exact Int.le_refl _
   | cons x gs ih =>
    intro hx
    have := ih fun y hy => hx y (List.mem_cons_of_mem _ hy)
    have h1 := times_range hs (hx x (List.mem_cons_self ..)) hsh
    have h2 := frame_range hs hd x
    have h3 := Int.mul_nonneg (show 0 ≤ timesM m x by omega) h2.1
    unfold ownN
    cases inRing m f x <;> simp only [cond_true, cond_false] <;> omega
  have hfr := frame_range hs hd g
  have htm := times_range hs (hgs g (List.mem_cons_self ..)) hsh
  have hp := Int.mul_nonneg (show 0 ≤ timesM m g by omega) hfr.1
  unfold ownN
  rcases List.mem_cons.1 h with rfl | h
  ·have : inRing m f f = true := by unfold inRing; simp
   rw [this]
   simp only [cond_true]
   have := hpos gs hgs'
   have h4 := Int.mul_le_mul_of_nonneg_right htm.1 hfr.1
   omega
  ·have := ownN_ge hs hd hsh gs hgs' h
   cases inRing m f g <;> simp only [cond_true, cond_false] <;> omega
theorem sumR_bey (f : Int) (out : List Int) : ∀ (gs : List Int) (a b : Int), b ≤ (sumR m l (wayM m) f out gs a b).2 ∧ ∀ g ∈ gs, inRing m f g = true → ∀ to ∈ (edgesB m).getD g.toNat [], wayM m to.toNat g.toNat = false → out.getD to.toNat 0 ≤ (sumR m l (wayM m) f out gs a b).2
 | [], a, b => ⟨Int.le_refl _, fun _ h => by cases h⟩
 | g :: gs, a, b => by
  unfold sumR
  cases hc : g != f && !(wayM m f.toNat g.toNat && wayM m g.toNat f.toNat) <;> simp only [cond_true, cond_false]
  ·obtain ⟨i1, i2⟩ := sumR_bey f out gs (IntKind.i64.wrap (a + IntKind.i64.wrap ((bif wayM m g.toNat g.toNat then (mtOf m g).2.2.2.2.1 else 1) * frameB m l g))) (beyR (wayM m) out g ((edgesB m).getD g.toNat []) b)
   obtain ⟨j1, j2⟩ := beyR_ge (wayM m) (out := out) g ((edgesB m).getD g.toNat []) b
   refine ⟨by omega, fun x hx hr to ht hw => ?_⟩
   rcases List.mem_cons.1 hx with rfl | hx
   ·have := j2 to ht hw
    omega
   ·exact i2 x hx hr to ht hw
  ·obtain ⟨i1, i2⟩ := sumR_bey f out gs a b
   refine ⟨i1, fun x hx hr to ht hw => ?_⟩
   rcases List.mem_cons.1 hx with rfl | hx
   ·unfold inRing at hr
    rw [hc] at hr; cases hr
   ·exact i2 x hx hr to ht hw
theorem sumR_most (f : Int) {out : List Int} {B : Int} : ∀ (gs : List Int) (a b : Int), 0 ≤ b → b ≤ B → (∀ g ∈ gs, inRing m f g = true → ∀ to ∈ (edgesB m).getD g.toNat [], wayM m to.toNat g.toNat = false → out.getD to.toNat 0 ≤ B) → (sumR m l (wayM m) f out gs a b).2 ≤ B
 | [], _, _, _, h, _ => h
 | g :: gs, a, b, h0, h, hB => by
  have hB' := fun x hx => hB x (List.mem_cons_of_mem _ hx)
  unfold sumR
  cases hc : g != f && !(wayM m f.toNat g.toNat && wayM m g.toNat f.toNat) <;> simp only [cond_true, cond_false]
  ·obtain ⟨j1, j2⟩ := beyR_range (wayM m) (out := out) (B := B) g ((edgesB m).getD g.toNat []) b h0 h (hB g (List.mem_cons_self ..) (by unfold inRing; rw [hc]; rfl))
   exact sumR_most f gs _ _ (by omega) j2 hB'
  ·exact sumR_most f gs _ _ h0 h hB'
structure BV (m : Im) (l : List (List Sh)) (V : List Int) : Prop where
 len : V.length = m.2.2.2.1.length
 pos : ∀ f, inM m f = true → frameB m l f ≤ ix V f ∧ 0 ≤ ix V f ∧ ix V f ≤ 100000
 call : ∀ f g, inM m f = true → callsB m f g = true → wayM m g.toNat f.toNat = false → frameB m l f + ix V g ≤ ix V f
 ring : ∀ f g, inM m f = true → inM m g = true → wayM m f.toNat g.toNat = true → wayM m g.toNat f.toNat = true → ix V f = ix V g
 way : ∀ f g, inM m f = true → inM m g = true → wayM m f.toNat g.toNat = true → ix V g ≤ ix V f
theorem bound_values (hs : saneP m = true) (hd : ∀ f, 0 ≤ deepB l f ∧ deepB l f ≤ 8) (R : RP (edgesB m) r) (hsh : shallow m = false) {V : List Int} (hl : V.length = m.2.2.2.1.length) (hV : ∀ f ∈ r.flatten, ix V f = stepR m l (wayM m) V f) : BV m l V := by
 have h12 := (fit_of (saneP_of hs).1).methods
 have hI : ∀ g ∈ ints m.2.2.2.1.length, inM m g = true := fun g hg => inM_iff.2 (mem_ints.1 hg)
 have hall : ∀ f, inM m f = true → f ∈ r.flatten := fun f hf => (R.all f).2 (by rw [inN, edges_len]; exact inM_iff.1 hf)
 have ew : ∀ x y : Int, wayM m x.toNat y.toNat = wy (edgesB m) x y := fun x y => by unfold wayM wy; rw [edges_len]
 have hE := edges_in (m := m)
 -- no value wraps
 have key : ∀ (k : Nat) (pre suf : List (List Int)) (p : List Int), r = pre ++ p :: suf → pre.length = k → ∀ f ∈ p, 0 ≤ (sumR m l (wayM m) f V (ints m.2.2.2.1.length) 0 0).2 ∧ ix V f = ownN m l f (ints m.2.2.2.1.length) + (sumR m l (wayM m) f V (ints m.2.2.2.1.length) 0 0).2 ∧ ix V f ≤ 2000 * ((k : Int) + 1) := by
  intro k
  induction k using Nat.strongRecOn with
  | ind k ih =>
   intro pre suf p h hk f hf
   have hp : p ∈ r := by rw [h]; simp
   have hfr : f ∈ r.flatten := List.mem_flatten.2 ⟨p, hp, hf⟩
   obtain ⟨o1, o2, o3⟩ := sumR_own (b := 0) hs hd hsh f V (ints m.2.2.2.1.length) 0 hI (Int.le_refl _) (by rw [ints_len]; omega)
   rw [ints_len] at o3
   have hk12 : k < 12 := by
    have h1 := R.few
    rw [edges_len, h, List.length_append, List.length_cons] at h1
    omega
   have hb : (sumR m l (wayM m) f V (ints m.2.2.2.1.length) 0 0).2 ≤ 2000 * (k : Int) := by
    refine sumR_most f _ _ _ (Int.le_refl _) (by omega) fun g hg hr to ht hw => ?_
    have hgm := hI g hg
    have hgn : inN (edgesB m) g := by rw [inN, edges_len]; exact inM_iff.1 hgm
    have hgp : g ∈ p := by
     rw [same_part hE R h hf hgn]
     unfold inRing at hr
     rw [ew, ew] at hr
     by_cases e : g = f
     ·exact .inl e
     ·right
      have e' : (g != f) = true := by simpa using e
      rw [e'] at hr
      cases h1 : wy (edgesB m) f g
      ·rw [h1] at hr; cases hr
      ·cases h2 : wy (edgesB m) g f
       ·rw [h1, h2] at hr; cases hr
       ·exact ⟨rfl, rfl⟩
    have hEg := eg_row hgn to ht
    have htp : to ∉ p := fun htp => by
     rw [ew] at hw
     rcases (same_part hE R h htp hgn).1 hgp with e | ⟨e1, -⟩
     ·have h1 := way_edge (edgesB m) (edgesB m).length (eg_nat hEg)
      rw [e] at h1
      unfold wy at hw
      rw [e, h1] at hw; cases hw
     ·rw [e1] at hw; cases hw
    have hpre : to ∈ pre.flatten := (part_shut R h (.inl hgp) (.one hEg)).resolve_left htp
    obtain ⟨p', hp', htp'⟩ := List.mem_flatten.1 hpre
    obtain ⟨p1, p2, hpp⟩ := List.append_of_mem hp'
    have hlt : p1.length < k := by rw [← hk, hpp]; simp
    obtain ⟨-, -, h3⟩ := ih p1.length hlt p1 (p2 ++ p :: suf) p' (by rw [h, hpp]; simp) rfl to htp'
    show ix V to ≤ _
    omega
   have hb0 := (sumR_bey (m := m) (l := l) f V (ints m.2.2.2.1.length) 0 0).1
   have hst := hV f hfr
   unfold stepR at hst
   rw [o1, wrap_small (by omega) (by omega)] at hst
   exact ⟨hb0, by omega, by omega⟩
 have at' : ∀ f, inM m f = true → ∃ pre p suf, r = pre ++ p :: suf ∧ f ∈ p ∧ pre.length < 12 := fun f hf => by
  obtain ⟨p, hp, hfp⟩ := List.mem_flatten.1 (hall f hf)
  obtain ⟨pre, suf, h⟩ := List.append_of_mem hp
  refine ⟨pre, p, suf, h, hfp, ?_⟩
  have h1 := R.few
  rw [edges_len, h, List.length_append, List.length_cons] at h1
  omega
 have pos : ∀ f, inM m f = true → frameB m l f ≤ ix V f ∧ 0 ≤ ix V f ∧ ix V f ≤ 100000 := fun f hf => by
  obtain ⟨pre, p, suf, h, hfp, hlt⟩ := at' f hf
  obtain ⟨h1, h2, h3⟩ := key _ pre suf p h rfl f hfp
  have h4 := ownN_ge hs hd hsh (f := f) (ints m.2.2.2.1.length) hI (mem_ints.2 (inM_iff.1 hf))
  have h5 := frame_range hs hd f
  exact ⟨by omega, by omega, by omega⟩
 have call : ∀ f g, inM m f = true → callsB m f g = true → wayM m g.toNat f.toNat = false → frameB m l f + ix V g ≤ ix V f := fun f g hf hc hw => by
  obtain ⟨pre, p, suf, h, hfp, hlt⟩ := at' f hf
  obtain ⟨h1, h2, h3⟩ := key _ pre suf p h rfl f hfp
  have h4 := ownN_ge hs hd hsh (f := f) (ints m.2.2.2.1.length) hI (mem_ints.2 (inM_iff.1 hf))
  have hgm := tgt_in (tgtOk_of (saneP_of hs).2) hf hc
  have hmem : g ∈ (edgesB m).getD f.toNat [] := by
   obtain ⟨f0, f1⟩ := inM_iff.1 hf
   have hk : f.toNat < m.2.2.2.1.length := by omega
   unfold edgesB
   rw [List.getD_eq_getElem?_getD, List.getElem?_map, show (ints m.2.2.2.1.length)[f.toNat]? = some f by simp [ints, hk]; omega]
   show g ∈ (ints m.2.2.2.1.length).filter fun g => callsB m f g
   rw [List.mem_filter, mem_ints]
   exact ⟨inM_iff.1 hgm, hc⟩
  have h5 := (sumR_bey (m := m) (l := l) f V (ints m.2.2.2.1.length) 0 0).2 f (mem_ints.2 (inM_iff.1 hf)) (by unfold inRing; simp) g hmem hw
  have : ix V g = V.getD g.toNat 0 := rfl
  omega
 have ring : ∀ f g, inM m f = true → inM m g = true → wayM m f.toNat g.toNat = true → wayM m g.toNat f.toNat = true → ix V f = ix V g := fun f g hf hg h1 h2 => by
  obtain ⟨pre, p, suf, h, hfp, hlt⟩ := at' f hf
  have hgn : inN (edgesB m) g := by rw [inN, edges_len]; exact inM_iff.1 hg
  have hgp : g ∈ p := (same_part hE R h hfp hgn).2 (.inr ⟨by rw [← ew]; exact h1, by rw [← ew]; exact h2⟩)
  obtain ⟨a, a1, a2⟩ := part_step (l := l) R h (by rw [hl, edges_len]) (out' := V) (fun _ _ => rfl) hfp (deep_of R hsh h)
  obtain ⟨b, b1, b2⟩ := part_step (l := l) R h (by rw [hl, edges_len]) (out' := V) (fun _ _ => rfl) hgp (deep_of R hsh h)
  rw [a1] at b1
  rw [hV f (hall f hf), hV g (hall g hg), ← a2, ← b2, Option.some.inj b1]
 refine ⟨hl, pos, call, ring, fun f g hf hg hw => ?_⟩
 have hrt := way_rt hE (inM_iff.1 hf).1 (inM_iff.1 hg).1 (by rw [ew] at hw; exact hw)
 clear hw
 induction hrt with
 | refl _ => exact Int.le_refl _
 | @step x y z e _ ih =>
  have hym : inM m y = true := by have := e.2.1; rw [inN, edges_len] at this; exact inM_iff.2 this
  have hc : callsB m x y = true := by
   have h3 := e.2.2
   obtain ⟨f0, f1⟩ := inM_iff.1 hf
   have hk : x.toNat < m.2.2.2.1.length := by omega
   unfold edgesB at h3
   rw [List.getD_eq_getElem?_getD, List.getElem?_map, show (ints m.2.2.2.1.length)[x.toNat]? = some x by simp [ints, hk]; omega] at h3
   have h3 : y ∈ (ints m.2.2.2.1.length).filter fun g => callsB m x g := h3
   exact (List.mem_filter.1 h3).2
  have h1 := ih hym hg
  cases hw : wayM m y.toNat x.toNat
  ·have := call x y hf hc hw
   have := frame_range hs hd x
   omega
  ·have hxy : wayM m x.toNat y.toNat = true := by rw [ew]; exact way_edge _ _ (eg_nat e)
   have := ring x y hf hym hxy hw
   omega
end
end Go.Pli

namespace Go.Pli
open Go Go.PM
theorem sane13_eq (m : Im) : sane13N m = some (sane11 m, ()) := sane11_eq m
theorem types_all {m : Im} (hs : saneP m = true) : (∃ f, 0 ≤ f ∧ r8all m = some ([], f, ())) ∨ ∃ l, r8all m = some (l, -1, ()) ∧ okSS l = true ∧ l.length = m.2.2.2.1.length ∧ ∀ f, inM m f = true → PF m f (l.getD f.toNat []) := by
 have go : ∀ (fs : List Int) (out : List (List Sh)) (r), (∀ f ∈ fs, inM m f = true) → checkM m fs out = some r → r.2.2.2.1 = 0 → ∃ add, r.1 = out ++ add ∧ add.length = fs.length ∧ ∀ k, k < fs.length → PF m (fs.getD k 0) (add.getD k []) := fun fs => by
  induction fs with
  | nil =>
   intro out r _ hr _
   have := Option.some.inj hr
   subst this
   exact ⟨[], by simp, rfl, fun _ h => by cases h⟩
  | cons f fs ih =>
   intro out r hl hr h0
   obtain ⟨z, hz, -, -, -, hP⟩ := method_rounds hs (hl f (List.mem_cons_self ..))
   unfold checkM at hr
   rw [hz, Option.bind_some] at hr
   cases he : z.2.2.1 != 0 <;> simp only [he, cond_true, cond_false] at hr
   ·have hz0 : z.2.2.1 = 0 := by simpa using he
    obtain ⟨add, a1, a2, a3⟩ := ih (out ++ [z.1]) r (fun x hx => hl x (List.mem_cons_of_mem _ hx)) hr h0
    refine ⟨z.1 :: add, by rw [a1]; simp, by simp [a2], fun k hk => ?_⟩
    cases k with
    | zero => exact hP hz0
    | succ k =>
     rw [List.getD_cons_succ, List.getD_cons_succ]
     exact a3 k (by simpa using hk)
   ·have hz0 : z.2.2.1 ≠ 0 := by simpa using he
    have := Option.some.inj hr
    subst this
    exact absurd h0 hz0
 obtain ⟨r, h1, h2, h3⟩ := tcheck_all hs
 obtain ⟨r', h1', hok, -⟩ := tcheck_ends hs
 rw [h1] at h1'
 have := Option.some.inj h1'
 subst this
 by_cases h0 : r.2.2.2.1 = 0
 ·obtain ⟨h4, h5⟩ := h2 h0
  unfold tcheck at h1
  rw [hs] at h1
  simp only [cond_true] at h1
  obtain ⟨add, a1, a2, a3⟩ := go _ _ _ (fun f hf => inM_iff.2 (mem_ints.1 hf)) h1 h0
  rw [List.nil_append] at a1
  rw [ints_len] at a2 a3
  refine .inr ⟨r.1, h4, hok, h5, fun f hf => ?_⟩
  obtain ⟨f0, f1⟩ := inM_iff.1 hf
  have hk : f.toNat < m.2.2.2.1.length := by omega
  have := a3 f.toNat hk
  rw [ints_get hk, Int.toNat_of_nonneg f0] at this
  rw [a1]; exact this
 ·obtain ⟨h4, h5⟩ := h3 h0
  exact .inl ⟨_, (inM_iff.1 h5).1, h4⟩
theorem deep8 {m : Im} {l : List (List Sh)} (hl : l.length = m.2.2.2.1.length) (P : ∀ f, inM m f = true → PF m f (l.getD f.toNat [])) (f : Int) : 0 ≤ deepB l f ∧ deepB l f ≤ 8 := by
 unfold deepB
 cases hs : sin f (l.length : Int) <;> simp only [cond_true, cond_false]
 ·exact ⟨Int.le_refl _, by omega⟩
 ·have hf : inM m f = true := by
   simp only [sin, Bool.and_eq_true, decide_eq_true_eq] at hs
   exact inM_iff.2 ⟨hs.1, by omega⟩
  refine ⟨maxF_ge _ 0, maxF_le (fun x hx => ?_) 0 (by decide)⟩
  obtain ⟨s, hs, rfl⟩ := List.mem_map.1 hx
  have := ((P f hf).gd.good s hs).1
  omega
theorem bound_all {m : Im} (hs : saneP m = true) {l : List (List Sh)} (hok : okSS l = true) (hd : ∀ f, 0 ≤ deepB l f ∧ deepB l f ≤ 8) :
  (dbound m l = some ([], 5, ()) ∧ r8bound m l = some ([], false, ())) ∨ ∃ V, BV m l V ∧ dbound m l = some (V, 0, ()) ∧ r8bound m l = some (V, true, ()) := by
 have htg := tgtOk_of (saneP_of hs).2
 have hed := ofAll_eq htg
 have h12 := (fit_of (saneP_of hs).1).methods
 have hsm := edges_small (saneP_of hs).1
 have hb : r8bound m l = some (boundR m l) := by unfold r8bound; rw [hs, hok, htg, hsm]; rfl
 obtain ⟨r, hr, R⟩ := rings_parts (ED := ofAll m) (by rw [ofAll_len]; omega) fun e he => (ofAll_row hs he).1
 rw [hed] at R
 have hall : (okL r && r.all (fun p => okL p && p.all (inM m))) = true := by
  have hfew := R.few
  rw [edges_len] at hfew
  simp only [Bool.and_eq_true, List.all_eq_true]
  refine ⟨okL_of (by omega), fun p hp => ?_⟩
  have hpi : ∀ x ∈ p, inM m x = true := fun x hx => by
   have := part_in R hp hx
   rw [inN, edges_len] at this
   exact inM_iff.2 this
  refine ⟨okL_of ?_, hpi⟩
  have := nodup_sub_len (a := p) (b := ints m.2.2.2.1.length) ((R.srt p hp).imp fun h => by omega) fun x hx => mem_ints.2 (inM_iff.1 (hpi x hx))
  rw [ints_len] at this
  omega
 have hdb : dbound m l = some (ringsF m l (edgesB m) r (List.replicate m.2.2.2.1.length 0)) := by
  unfold dbound
  rw [hs, hok, edOk_of hs, hr, hed]
  simp only [Bool.and_self, cond_true, Option.bind_some, hall]
 obtain ⟨B1, -⟩ := bound_eq (l := l) R
 cases hsh : shallow m
 ·obtain ⟨V, h1, h2, h3⟩ := rings_fix (l := l) R hsh r [] (List.replicate m.2.2.2.1.length 0) rfl (by simp [edges_len]) (fun f hf => by cases hf)
  refine .inr ⟨V, bound_values hs hd R hsh (by rw [h2, edges_len]) h3, by rw [hdb, h1], ?_⟩
  rw [hb]
  unfold boundR
  rw [hsh]
  simp only [cond_false]
  rw [rnds_fix R hsh h2 h3 m.2.2.2.1.length [] r _ rfl (by have := R.few; rw [edges_len] at this; exact this) (by simp [edges_len]) (fun f hf => by cases hf)]
 ·obtain ⟨v1, v2⟩ := B1 hsh
  exact .inl ⟨by rw [hdb, v1], by rw [hb, v2]⟩
theorem frame_same {m : Im} (hs : saneP m = true) {l : List (List Sh)} (hok : okSS l = true) (f : Int) : dframeN m l f = some (frameB m l f, ()) ∧ r8frame m l f = some (frameB m l f, ()) := by
 refine ⟨?_, by unfold r8frame; rw [hs, hok]; rfl⟩
 cases hf : inM m f
 ·unfold dframeN frameB
  rw [hf]
  by_cases h0 : f < 0
  ·rw [decide_eq_true h0]; rfl
  ·have h1 : f ≥ (m.2.2.2.1.length : Int) := by
    rcases Int.lt_or_le f (m.2.2.2.1.length : Int) with h | h
    ·rw [inM_iff.2 ⟨by omega, h⟩] at hf; cases hf
    ·exact h
   rw [decide_eq_false h0, decide_eq_true h1]; rfl
 ·exact dframe_at hs hok hf
theorem rints_refl {l : List Int} : rints l l = true := by
 unfold rints
 simp
theorem depthBounds_law (m : Im) : ∃ k, depthBoundsN k m = some (true, ()) := by
 refine ⟨1001, ?_⟩
 unfold depthBoundsN
 cases hsm : sane11 m
 ·rfl
 obtain ⟨hi, hsb⟩ := sane11_of hsm
 have hs : saneP m = true := by unfold saneP; rw [hi, hsb]; rfl
 have h12 := (fit_of hi).methods
 simp only [Bool.not_true, cond_false]
 rcases types_all hs with ⟨f, f0, h⟩ | ⟨l, h, hok, hl, P⟩
 ·rw [h]
  simp only [Option.bind_some]
  rw [decide_eq_true (show f ≥ 0 from f0)]
  rfl
 rw [h]
 simp only [Option.bind_some]
 rw [show decide ((-1 : Int) ≥ 0) = false from rfl]
 simp only [cond_false]
 rcases bound_all hs hok (deep8 hl P) with ⟨h1, h2⟩ | ⟨V, hV, h1, h2⟩
 ·rw [h1, h2]; rfl
 rw [h1, h2]
 simp only [Option.bind_some, Bool.not_true, cond_false]
 have key := loop_seq (L := depthBoundsL1 m (l, -1, ()) (V, 0, ()) (V, true, ())) (n := m.2.2.2.1.length + 2) (st := fun k => ((k : Int) - 1, ())) (fin := some (true, ()))
  (fun k rec hk => by
   rw [depthBoundsL1]
   obtain ⟨f1, f2⟩ := frame_same hs hok ((k : Int) - 1)
   have hle : decide ((k : Int) - 1 ≤ (m.2.2.2.1.length : Int)) = true := decide_eq_true (by omega)
   have hw : IntKind.i64.wrap ((k : Int) - 1 + 1) = ((k + 1 : Nat) : Int) - 1 := by rw [w64' (by omega) (by omega)]; omega
   simp only [hle, f1, f2, Option.bind_some, bne_self_eq_false, cond_true, cond_false, hw])
  (fun rec => by
   rw [depthBoundsL1]
   have hle : decide (((m.2.2.2.1.length + 2 : Nat) : Int) - 1 ≤ (m.2.2.2.1.length : Int)) = false := decide_eq_false (by omega)
   simp only [hle, cond_false]
   unfold awake13
   simp only [Option.bind_some, cond_true, beq_self_eq_true, rints_refl]) 1001 (by omega)
 exact key
theorem way_row' {m : Im} {i j : Nat} (hi : i < m.2.2.2.1.length) (hj : j < m.2.2.2.1.length) : ((matF m.2.2.2.1.length (wayM m)).getD i []).getD j false = wayM m i j := by
 rw [matF_row hi, wrow_get hj]
theorem way_len {m : Im} {i j : Nat} (hi : i < m.2.2.2.1.length) (hj : j < m.2.2.2.1.length) : decide ((j : Int) < (((matF m.2.2.2.1.length (wayM m)).getD i []).length : Int)) = true := decide_eq_true (by rw [matF_row hi]; simp; omega)
theorem depthCalls_law (m : Im) : ∃ k, depthCallsN k m = some (true, ()) := by
 refine ⟨1001, ?_⟩
 unfold depthCallsN
 cases hsm : sane11 m
 ·rfl
 obtain ⟨hi, hsb⟩ := sane11_of hsm
 have hs : saneP m = true := by unfold saneP; rw [hi, hsb]; rfl
 have h12 := (fit_of hi).methods
 simp only [Bool.not_true, cond_false]
 rcases types_all hs with ⟨f, f0, h⟩ | ⟨l, h, hok, hl, P⟩
 ·rw [h]
  simp only [Option.bind_some]
  rw [decide_eq_true (show f ≥ 0 from f0)]
  rfl
 rw [h]
 simp only [Option.bind_some]
 rw [show decide ((-1 : Int) ≥ 0) = false from rfl]
 simp only [cond_false]
 rcases bound_all hs hok (deep8 hl P) with ⟨h1, h2⟩ | ⟨V, hV, h1, h2⟩
 ·rw [h1]; rfl
 have e1 : r8edges m = some (edgesB m, ()) := by unfold r8edges; rw [hi]; rfl
 have e2 : r8ways (edgesB m) = some (wayX m) := by unfold r8ways; rw [edges_small hi, edges_len]; rfl
 have hVl := hV.len
 have hz : ((V.length : Int) != (m.2.2.2.1.length : Int)) = false := by rw [hVl]; simp
 rw [h1]
 simp only [Option.bind_some, bne_self_eq_false, cond_false, hz, e1, e2]
 have fr := fun f => (frame_same hs hok f).1
 have hfr := frame_range hs (deep8 hl P)
 have hin : ∀ k : Nat, k < m.2.2.2.1.length → inM m (k : Int) = true := fun k hk => inM_iff.2 ⟨by omega, by omega⟩
 exact loop_seq (L := depthCallsL2 m 1001 (l, -1, ()) (V, 0, ()) (wayX m)) (n := m.2.2.2.1.length) (st := fun k => ((k : Int), ())) (fin := some (true, ()))
  (fun f rec hf => by
   have hv := hV.pos (f : Int) (hin f hf)
   have hvg : ix V (f : Int) = V.getD f 0 := by unfold ix; rw [Int.toNat_natCast]
   have hlt : decide (V.getD f 0 < frameB m l (f : Int)) = false := decide_eq_false (by omega)
   have hw := wsucc hf (show _ ≤ lenMax by simp only [lenMax]; omega)
   rw [depthCallsL2]
   simp only [hVl, dlt hf, dge, Bool.and_self, cond_true, fr, Option.bind_some, Int.toNat_natCast, hlt, cond_false]
   exact loop_seq (L := depthCallsL1 m (l, -1, ()) (V, 0, ()) (wayX m) ((f : Int), ()) rec) (n := m.2.2.2.1.length) (st := fun k => ((k : Int), ())) (fin := rec (((f + 1 : Nat) : Int), ()))
    (fun g rec2 hg => by
     have hw2 := wsucc hg (show _ ≤ lenMax by simp only [lenMax]; omega)
     have hc : r8calls m (f : Int) (g : Int) = some (callsB m (f : Int) (g : Int), ()) := by unfold r8calls; rw [hi, hin f hf]; rfl
     have hvg2 : ix V (g : Int) = V.getD g 0 := by unfold ix; rw [Int.toNat_natCast]
     rw [depthCallsL1]
     simp only [hVl, dlt hg, dlt hf, dge, Bool.and_self, cond_true, hc, Option.bind_some, matF_len, way_len hg hf, Int.toNat_natCast, way_row' hg hf, fr, hw2]
     cases hcc : callsB m (f : Int) (g : Int) <;> simp only [cond_true, cond_false]
     cases hww : wayM m g f <;> simp only [Bool.not_true, Bool.not_false, cond_true, cond_false]
     have h5 := hV.call (f : Int) (g : Int) (hin f hf) hcc (by rw [Int.toNat_natCast, Int.toNat_natCast]; exact hww)
     have h6 := hV.pos (g : Int) (hin g hg)
     have h7 := hfr (f : Int)
     have h8 : IntKind.i64.wrap (frameB m l (f : Int) + V.getD g 0) = frameB m l (f : Int) + V.getD g 0 := by rw [w64' (by omega) (by omega)]
     have h9 : decide (V.getD f 0 < IntKind.i64.wrap (frameB m l (f : Int) + V.getD g 0)) = false := decide_eq_false (by rw [h8]; omega)
     simp only [h9, cond_false])
    (fun rec2 => by
     rw [depthCallsL1]
     simp only [hVl, dnlt, cond_false, hw]) 1001 (by omega))
  (fun rec => by
   rw [depthCallsL2]
   simp only [hVl, dnlt, cond_false]
   rfl) 1001 (by omega)
theorem depthRing_law (m : Im) : ∃ k, depthRingN k m = some (true, ()) := by
 refine ⟨1001, ?_⟩
 unfold depthRingN
 cases hsm : sane11 m
 ·rfl
 obtain ⟨hi, hsb⟩ := sane11_of hsm
 have hs : saneP m = true := by unfold saneP; rw [hi, hsb]; rfl
 have h12 := (fit_of hi).methods
 simp only [Bool.not_true, cond_false]
 rcases types_all hs with ⟨f, f0, h⟩ | ⟨l, h, hok, hl, P⟩
 ·rw [h]
  simp only [Option.bind_some]
  rw [decide_eq_true (show f ≥ 0 from f0)]
  rfl
 rw [h]
 simp only [Option.bind_some]
 rw [show decide ((-1 : Int) ≥ 0) = false from rfl]
 simp only [cond_false]
 rcases bound_all hs hok (deep8 hl P) with ⟨h1, h2⟩ | ⟨V, hV, h1, h2⟩
 ·rw [h1]; rfl
 have e1 : r8edges m = some (edgesB m, ()) := by unfold r8edges; rw [hi]; rfl
 have e2 : r8ways (edgesB m) = some (wayX m) := by unfold r8ways; rw [edges_small hi, edges_len]; rfl
 have hVl := hV.len
 have hz : ((V.length : Int) != (m.2.2.2.1.length : Int)) = false := by rw [hVl]; simp
 rw [h1]
 simp only [Option.bind_some, bne_self_eq_false, cond_false, hz, e1, e2]
 have hin : ∀ k : Nat, k < m.2.2.2.1.length → inM m (k : Int) = true := fun k hk => inM_iff.2 ⟨by omega, by omega⟩
 exact loop_seq (L := depthRingL2 1001 (V, 0, ()) (wayX m)) (n := m.2.2.2.1.length) (st := fun k => ((k : Int), ())) (fin := some (true, ()))
  (fun f rec hf => by
   have hw := wsucc hf (show _ ≤ lenMax by simp only [lenMax]; omega)
   have hvg : ix V (f : Int) = V.getD f 0 := by unfold ix; rw [Int.toNat_natCast]
   rw [depthRingL2]
   simp only [hVl, dlt hf, cond_true]
   exact loop_seq (L := depthRingL1 (V, 0, ()) (wayX m) ((f : Int), ()) rec) (n := m.2.2.2.1.length) (st := fun k => ((k : Int), ())) (fin := rec (((f + 1 : Nat) : Int), ()))
    (fun g rec2 hg => by
     have hw2 := wsucc hg (show _ ≤ lenMax by simp only [lenMax]; omega)
     have hvg2 : ix V (g : Int) = V.getD g 0 := by unfold ix; rw [Int.toNat_natCast]
     have hway : wayM m f g = true → decide (V.getD f 0 < V.getD g 0) = false := fun h => by
      have := hV.way (f : Int) (g : Int) (hin f hf) (hin g hg) (by rw [Int.toNat_natCast, Int.toNat_natCast]; exact h)
      exact decide_eq_false (by omega)
     have hring : wayM m f g = true → wayM m g f = true → (V.getD f 0 != V.getD g 0) = false := fun h h' => by
      have := hV.ring (f : Int) (g : Int) (hin f hf) (hin g hg) (by rw [Int.toNat_natCast, Int.toNat_natCast]; exact h) (by rw [Int.toNat_natCast, Int.toNat_natCast]; exact h')
      have : V.getD f 0 = V.getD g 0 := by omega
      rw [this]
      exact bne_self_eq_false _
     rw [depthRingL1]
     simp only [hVl, dlt hg, dlt hf, dge, Bool.and_self, cond_true, matF_len, way_len hg hf, way_len hf hg, Int.toNat_natCast, way_row' hg hf, way_row' hf hg, hw2]
     cases h1 : wayM m f g <;> simp only [cond_true, cond_false]
     cases h2 : wayM m g f <;> simp only [cond_true, cond_false]
     ·rw [hway h1]; rfl
     ·rw [hring h1 h2, hway h1]; rfl)
    (fun rec2 => by
     rw [depthRingL1]
     simp only [hVl, dnlt, cond_false, hw]) 1001 (by omega))
  (fun rec => by
   rw [depthRingL2]
   simp only [hVl, dnlt, cond_false]
   rfl) 1001 (by omega)
end Go.Pli
