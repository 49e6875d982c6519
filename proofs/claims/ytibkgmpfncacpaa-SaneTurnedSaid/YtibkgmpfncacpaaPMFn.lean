/- PM: a function's call, sound: the whole. -/
import Derived.Test.YtibkgmpfncacpaaPMFnA
namespace Go.PM
open Go
theorem ArgsRep.length {fix : Nat → Nat → Prop} {own : Nat → Option Lab} {W : World} : ∀ {n : Nat} {ps : List Md} {z : (tupTy ps).D} {vs : List Value}, ArgsRep fix own W n ps z vs → vs.length = ps.length
 | _, [], _, [], _ => rfl
 | _, [], _, _ :: _, h => h.elim
 | _, .val _ :: _, _, [], h => h.elim
 | _, .tip _ :: _, _, [], h => h.elim
 | _, .box _ _ :: _, _, [], h => h.elim
 | _, .nilp s :: _, _, [], h => h.elim
 | _, .cap _ :: _, _, [], h => h.elim
 | _, .full _ _ :: _, _, [], h => h.elim
 | _, .own _ _ :: _, _, [], h => h.elim
 | _, .own _ _ :: ps, z, _ :: vs, h => by have := ArgsRep.length (ps := ps) (z := z.2) h.2; simp [this]
 | _, .take _ _ :: _, _, [], h => h.elim
 | _, .str _ :: _, _, [], h => h.elim
 | _, .str _ :: _, _, _ :: _, h => h.elim
 | _, .take _ _ :: ps, z, _ :: vs, h => by have := ArgsRep.length (ps := ps) (z := z.2) h.2; simp [this]
 | _, .nilp s :: ps, z, _ :: vs, h => by have := ArgsRep.length (ps := ps) (z := z.2) h.2; simp [this]
 | _, .cap _ :: ps, z, _ :: vs, h => by have := ArgsRep.length (ps := ps) (z := z.2) h.2; simp [this]
 | _, .full _ _ :: ps, z, _ :: vs, h => by have := ArgsRep.length (ps := ps) (z := z.2) h.2; simp [this]
 | _, .val _ :: ps, z, _ :: vs, h => by have := ArgsRep.length (ps := ps) (z := z.2) h.2; simp [this]
 | _, .tip _ :: ps, z, _ :: vs, h => by have := ArgsRep.length (ps := ps) (z := z.2) h.2; simp [this]
 | _, .box _ _ :: ps, z, _ :: vs, h => by have := ArgsRep.length (ps := ps) (z := z.2) h.2; simp [this]
def ownIn (ps : List Md) (own : Nat → Option Lab) (b : Nat) : Option Lab :=
 match own b with
 | some (.arg i) => if 2000000 ≤ i then some (.box (lk (1000000 + (i - 2000000) / 1000) ((i - 2000000) % 1000))) else match ps[i]? with
  | some (.tip _) => some (.slot i)
  | some (.box _ _) => some (.box (1000000 + i))
  | some (.own _ _) => some (.box (1000000 + i))
  | some (.take _ _) => some (.box i)
  | _ => some (.arg i)
 | x => x
def ptrBlock : Value → Nat
 | .pointer (some ad) => ad.block
 | .slice (some ad) _ _ => ad.block
 | _ => 0
def bxIn (W : World) (val : Nat → Value) (i : Nat) : Bx :=
 if i < 1000000 then ⟨ptrBlock (val i), val i, fun _ => undef⟩
 else if i < 2000000 then ⟨ptrBlock (val (i - 1000000)), val (i - 1000000), fun _ => undef⟩
 else ⟨0, (W.cell? ⟨ptrBlock (val ((i - 2000000) / 1000 - 1000000)), (i - 2000000) % 1000, none⟩).getD undef, fun _ => undef⟩
theorem bxIn_at (W : World) (val : Nat → Value) {i : Nat} (h : i < 1000000) : bxIn W val (1000000 + i) = ⟨ptrBlock (val i), val i, fun _ => undef⟩ := by
 unfold bxIn
 rw [if_neg (by omega), if_pos (by omega), Nat.add_sub_cancel_left]
theorem bxIn_eq {W : World} {val : Nat → Value} {i B : Nat} (hi : i < 1000000) (h : val i = .pointer (some ⟨B, 0, none⟩)) : (bxIn W val (1000000 + i)).b = B := by
 rw [bxIn_at W val hi, h]
 rfl
theorem bxIn_h (W : World) (val : Nat → Value) {i : Nat} (hi : i < 1000000) : (bxIn W val (1000000 + i)).h = val i := by
 rw [bxIn_at W val hi]
theorem bxIn_t (W : World) (val : Nat → Value) {i : Nat} (h : i < 1000000) : (bxIn W val i).h = val i := by
 unfold bxIn
 rw [if_pos h]
theorem bxIn_lk (W : World) (val : Nat → Value) {i k : Nat} (hk : k < 1000) : (bxIn W val (lk (1000000 + i) k)).h = (W.cell? ⟨ptrBlock (val i), k, none⟩).getD undef := by
 unfold bxIn lk
 rw [if_neg (by omega), if_neg (by omega)]
 have h1 : (2000000 + 1000 * (1000000 + i) + k - 2000000) / 1000 - 1000000 = i := by omega
 have h2 : (2000000 + 1000 * (1000000 + i) + k - 2000000) % 1000 = k := by omega
 rw [h1, h2]
def ownOut (own : Nat → Option Lab) (b : Nat) : Option Lab :=
 match own b with
 | some (.slot _) => some (.arg 1000000)
 | some (.box i) => if i < 1000000 then some (.arg 1000000) else if i < 2000000 then some (.arg (i - 1000000)) else if (i - 2000000) / 1000 < 1000000 then some (.arg 1000000) else some (.arg (lk ((i - 2000000) / 1000 - 1000000) ((i - 2000000) % 1000)))
 | x => x
theorem ownIn_none {ps : List Md} {own : Nat → Option Lab} {b : Nat} {q : Lab} (h : ownIn ps own b = some q) : ∃ q', own b = some q' := by
 unfold ownIn at h
 cases ho : own b with
 | none => rw [ho] at h; cases h
 | some q' => exact ⟨q', rfl⟩
theorem ownOut_none {own : Nat → Option Lab} {b : Nat} {q : Lab} (h : ownOut own b = some q) : ∃ q', own b = some q' := by
 unfold ownOut at h
 cases ho : own b with
 | none => rw [ho] at h; cases h
 | some q' => exact ⟨q', rfl⟩
section
variable {P : Program} {G : Ctx} {w0 : World} {T : Nat → Prop} {f0 : F0} {n : Nat} {e : Env} {a : Act} {W : World} {g : Gh}
theorem RowAt.relab {fix : Nat → Nat → Prop} {own own' : Nat → Option Lab} {q q' : Lab} {v : Value} {el : TypeId} {r : Ty} {xs : List r.D} (h : RowAt fix own W q v el r xs) (hk : ∀ b, own b = some q → own' b = some q') : RowAt fix own' W q' v el r xs := by
 obtain ⟨A, c, h1, h2, h3⟩ := h
 exact ⟨A, c, h1, h2, h3.imp id fun ⟨b, off, cur, cs, k1, k2, k3, k4⟩ => ⟨b, off, cur, cs, k1, k2, hk _ k3, k4⟩⟩
theorem end_tmp (h : St w0 T f0 n e a W g) {m : Md} {t : Nat} {x : m.ty.D} (hx : endVal m e t = some x) : ResRep g.fix (ownOut g.own) W [m] (x, ()) (a.tmps.getD t undef) := by
 have hs := h.slots t
 cases m with
 | val t' => exact PV.as_sound hs.dat hx
 | tip t' =>
  simp only [endVal] at hx
  rcases typed_cases (some t') (e (.slot t)) with he | ⟨he, ⟨el, r, hT, hty⟩ | hty⟩
  ·rw [he] at hx
   split at hx
   ·rename_i t'' y hes
    obtain ⟨tp, hy⟩ := DV.as_eq hx
    injection hy with q1 q2 q3
    subst q1
    have q2 := eq_of_heq q2
    subst q2
    rw [hes] at hs
    refine ⟨hs.1, hs.2.1, ?_⟩
    have ht := hs.2.2 rfl
    cases t'' <;> simp only [Tip] at ht ⊢
    rcases ht with ht | ⟨b, m, cap, cur, h1, h2, h3, h4, h5, h6, h7⟩
    ·exact .inl ht
    ·exact .inr ⟨b, m, cap, cur, h1, h2, h3, h4, h5, by simp [ownOut, h6], h7⟩
   ·rename_i d hes
    obtain ⟨tp, rfl⟩ := DV.as_eq hx
    rw [hes] at hs
    refine ⟨hs.1, hs.2.1, ?_⟩
    have ht := hs.2.2.tip
    cases t' <;> simp only [Tip] at ht ⊢
    rcases ht with ht | ⟨b, m, cap, cur, h1, h2, h3, h4, h5, h6, h7⟩
    ·exact .inl ht
    ·exact .inr ⟨b, m, cap, cur, h1, h2, h3, h4, h5, by simp [ownOut, h6], h7⟩
   ·cases hx
  ·rw [hty] at hx
   rw [he] at hs
   have hv : a.tmps.getD t undef = .slice none 0 0 := hs
   injection hT with hT
   subst hT
   simp only at hx
   obtain ⟨tp, hy⟩ := DV.as_eq hx
   injection hy with q1 q2 q3
   subst q2
   rw [hv]
   exact ⟨rfl, ⟨none, 0, rfl, ⟨Nat.le_refl _, Nat.zero_le _⟩, fun hh => absurd rfl hh⟩, .inl ⟨none, 0, rfl⟩⟩
  ·rw [hty] at hx; cases hx
 | own el r =>
  simp only [endVal] at hx
  split at hx
  ·rename_i j hv hes
   split at hx
   ·cases hx
   rename_i hj
   split at hx
   ·rename_i e1 r1 xs hv' ver hb
    cases hvb : Nat.beq hv hv' <;> simp only [hvb, cond_true, cond_false] at hx
    ·cases hx
    have hvb := Nat.eq_of_beq_eq_true hvb
    subst hvb
    have hr := as_row hx hv ver
    rw [hr] at hb
    have hp := h.ptr t
    rw [hes] at hp
    have hj' : ¬ 1000000 ≤ j := fun hh => hj (Nat.ble_eq_true_of_le hh)
    exact (hdr_row h hp hb).2.relab fun b hb => by simp only [ownOut, hb]; rw [if_pos (by omega)]
   ·cases hx
  ·cases hx
 | nilp => simp [endVal] at hx
 | take _ _ => simp [endVal] at hx
 | str _ => simp [endVal] at hx
 | cap _ => simp [endVal] at hx
 | full _ _ => simp [endVal] at hx
 | box B t' =>
  simp only [endVal] at hx
  split at hx
  ·rename_i i hes
   split at hx
   ·cases hx
   ·rename_i hi
    split at hx
    ·rename_i T' cs v hb
     split at hx
     ·rename_i hB
      subst hB
      split at hx
      ·rename_i y hy
       injection hx with hx
       subst hx
       rw [hes] at hs
       have hv : a.tmps.getD t undef = .pointer (some ⟨(g.bx i).b, 0, none⟩) := hs
       have hbr := h.boxes i
       rw [hb] at hbr
       obtain ⟨us, k1, k2, k3, k4, k5⟩ := hbr
       have hi' : ¬ 1000000 ≤ i := fun hh => hi (Nat.ble_eq_true_of_le hh)
       exact ⟨(g.bx i).b, us, hv, k1, by simp only [ownOut, k2]; rw [if_pos (by omega)], k3, Ty.build_all hy k4⟩
      ·cases hx
     ·cases hx
    ·cases hx
  ·cases hx
theorem loadVar_of {P : Program} {t : TypeId} {ad : Addr} {W : World} {v : Value} (h : (Instr.loadAt t (.pointer (some ad))).run P W = .ok v W) : (loadVar t ad).run P W = .ok v W := by
 simpa [Instr.loadAt, Instr.sureAddr] using h
theorem end_cell {P : Program} {G : Ctx} (hG : CtxOk P G) (h : St w0 T f0 n e a W g) {t' : Ty} {s : Nat} {B : TypeId} {x : t'.D} (hx : endCell G (.val t') e s B = some x) :
  ∃ v, (∃ ad, a.tmps.getD s undef = .pointer (some ad) ∧ (loadVar B ad).run P W = .ok v W) ∧ VRep g.fix W t' x v := by
 simp only [endCell] at hx
 split at hx
 ·rename_i T' hT
  split at hx
  ·rename_i hc
   obtain ⟨rfl, hz⟩ := hc
   split at hx
   ·rename_i i lo hes
    split at hx
    ·rename_i B' cs v hb
     split at hx
     ·rename_i hl
      have hs := h.slots s
      rw [hes] at hs
      have hv : a.tmps.getD s undef = .pointer (some ⟨(g.bx i).b, lo, none⟩) := hs
      have hbr := h.boxes i
      rw [hb] at hbr
      obtain ⟨vs, k1, k2, k3, k4, k5⟩ := hbr
      obtain ⟨u, hload, hdv⟩ := load_cells (P := P) (hG.ty _ _ hT).1 (ad := ⟨(g.bx i).b, lo, none⟩) (lo := lo) rfl k4 (fun j u hu _ => by
       show W.cell? ⟨(g.bx i).b, lo + j, none⟩ = some u
       rw [cell_of_heap k1]; simpa using hu) hl hz
      exact ⟨u, ⟨_, hv, loadVar_of hload⟩, PV.as_sound (hdv g rfl) hx⟩
     ·cases hx
    ·cases hx
   ·cases hx
  ·cases hx
 ·cases hx
theorem linkOk_split : ∀ (t : Ty) (x : t.D), t.linkOk = true → ∀ (j : Nat) e2 r2 (y : List r2.D) tip, (t.split x)[j]? = some ⟨.osl e2 r2, y, tip⟩ → r2.plain = true
 | .pair a b, x, h, j, e2, r2, y, tip, hd => by
  simp only [Ty.linkOk, Bool.and_eq_true] at h
  simp only [Ty.split] at hd
  rcases Nat.lt_or_ge j (a.split x.1).length with hlt | hge
  ·rw [List.getElem?_append_left hlt] at hd
   exact linkOk_split a _ h.1 j e2 r2 y tip hd
  ·rw [List.getElem?_append_right hge] at hd
   exact linkOk_split b _ h.2 _ e2 r2 y tip hd
 | .osl e r, x, h, j, e2, r2, y, tip, hd => by
  cases j with
  | zero =>
   simp only [Ty.split, List.getElem?_cons_zero, Option.some.injEq] at hd
   injection hd with q1 _ _
   injection q1 with q1 q3
   subst q3; exact h
  | succ j => simp [Ty.split] at hd
 | .unit, x, h, j, e2, r2, y, tip, hd => (leaf_sub (t := .unit) (y := x) ⟨fun _ _ h => (by cases h), fun _ _ h => (by cases h)⟩ hd).elim
 | .int _, x, h, j, e2, r2, y, tip, hd => (leaf_sub (t := .int _) (y := x) ⟨fun _ _ h => (by cases h), fun _ _ h => (by cases h)⟩ hd).elim
 | .bool, x, h, j, e2, r2, y, tip, hd => (leaf_sub (t := .bool) (y := x) ⟨fun _ _ h => (by cases h), fun _ _ h => (by cases h)⟩ hd).elim
 | .str, x, h, j, e2, r2, y, tip, hd => (leaf_sub (t := .str) (y := x) ⟨fun _ _ h => (by cases h), fun _ _ h => (by cases h)⟩ hd).elim
 | .sl _ _, x, h, j, e2, r2, y, tip, hd => (leaf_sub (t := .sl _ _) (y := x) ⟨fun _ _ h => (by cases h), fun _ _ h => (by cases h)⟩ hd).elim
 | .any, x, h, j, e2, r2, y, tip, hd => (leaf_sub (t := .any) (y := x) ⟨fun _ _ h => (by cases h), fun _ _ h => (by cases h)⟩ hd).elim
 | .clo _ _, x, h, j, e2, r2, y, tip, hd => (leaf_sub (t := .clo _ _) (y := x) ⟨fun _ _ h => (by cases h), fun _ _ h => (by cases h)⟩ hd).elim
theorem gather_sound (h : St w0 T f0 n e a W g) {i : Nat} {B : TypeId} {cs0 : List DV} {ver : Nat} {vs : Array Value} (hb : e (.box i) = .box B cs0 ver) (hh : W.heap[(g.bx i).b]? = some (.cells vs B (0, 0))) : ∀ (t : Ty) (k : Nat) (cs l : List DV) (us : List Value) (x : t.D),
  (∀ (j : Nat) d, cs[j]? = some d → cs0[k + j]? = some d) → (∀ (j : Nat) u, us[j]? = some u → vs[k + j]? = some u) → Cells g.fix W cs us → gather e i t k cs = some (x, l) →
  ∃ pre us1 us2, cs = pre ++ l ∧ us = us1 ++ us2 ∧ pre.length = t.sz ∧ us1.length = t.sz ∧ Cells g.fix W l us2 ∧ Rep g.fix W t x us1 ∧
   ∀ (j : Nat) e2 r2 (y2 : List r2.D) tip, (t.split x)[j]? = some ⟨.osl e2 r2, y2, tip⟩ → k + j < 1000 ∧ ∃ u, us1[j]? = some u ∧ RowAt g.fix g.own W (.box (lk i (k + j))) u e2 r2 y2 := by
 intro t
 have leaf : ∀ (t : Ty), ((∀ a b, t ≠ .pair a b) ∧ ∀ e r, t ≠ .osl e r) → ∀ (k : Nat) (cs l : List DV) (us : List Value) (x : t.D), Cells g.fix W cs us → t.build cs = some (x, l) →
   ∃ pre us1 us2, cs = pre ++ l ∧ us = us1 ++ us2 ∧ pre.length = t.sz ∧ us1.length = t.sz ∧ Cells g.fix W l us2 ∧ Rep g.fix W t x us1 ∧
    ∀ (j : Nat) e2 r2 (y2 : List r2.D) tip, (t.split x)[j]? = some ⟨.osl e2 r2, y2, tip⟩ → k + j < 1000 ∧ ∃ u, us1[j]? = some u ∧ RowAt g.fix g.own W (.box (lk i (k + j))) u e2 r2 y2 := by
  intro t ht k cs l us x hc hx
  obtain ⟨pre, hp1, hp2, hp3⟩ := Ty.build_sound t cs l x hx
  subst hp1
  obtain ⟨v1, v2, hv, hc1, hc2⟩ := Cells.parts hc
  exact ⟨pre, v1, v2, rfl, hv, hp2, by rw [← hc1.len]; exact hp2, hc2, hp3 _ _ _ hc1, fun j e2 r2 y2 tip hd => (leaf_sub ht hd).elim⟩
 induction t with
 | unit => intro k cs l us x _ _ hc hx; exact leaf .unit ⟨fun _ _ h => (by cases h), fun _ _ h => (by cases h)⟩ k cs l us x hc hx
 | int kd => intro k cs l us x _ _ hc hx; exact leaf (.int kd) ⟨fun _ _ h => (by cases h), fun _ _ h => (by cases h)⟩ k cs l us x hc hx
 | bool => intro k cs l us x _ _ hc hx; exact leaf .bool ⟨fun _ _ h => (by cases h), fun _ _ h => (by cases h)⟩ k cs l us x hc hx
 | str => intro k cs l us x _ _ hc hx; exact leaf .str ⟨fun _ _ h => (by cases h), fun _ _ h => (by cases h)⟩ k cs l us x hc hx
 | sl el r _ => intro k cs l us x _ _ hc hx; exact leaf (.sl el r) ⟨fun _ _ h => (by cases h), fun _ _ h => (by cases h)⟩ k cs l us x hc hx
 | any => intro k cs l us x _ _ hc hx; exact leaf .any ⟨fun _ _ h => (by cases h), fun _ _ h => (by cases h)⟩ k cs l us x hc hx
 | clo q r _ => intro k cs l us x _ _ hc hx; exact leaf (.clo q r) ⟨fun _ _ h => (by cases h), fun _ _ h => (by cases h)⟩ k cs l us x hc hx
 | osl el r _ =>
  intro k cs l us x hcs hus hc hx
  simp only [gather] at hx
  cases cs with
  | nil => cases hx
  | cons d cs =>
   simp only at hx
   cases hdl : d.isLnk && Nat.blt k 1000 <;> simp only [hdl, cond_true, cond_false] at hx
   ·cases hx
   simp only [Bool.and_eq_true, Nat.blt_eq] at hdl
   split at hx
   ·rename_i e1 r1 xs hv ver' hK
    split at hx
    ·rename_i y hy
     injection hx with hx
     injection hx with hx1 hx2
     subst hx1; subst hx2
     rw [as_row' hy hv ver'] at hK
     cases us with
     | nil => exact hc.elim
     | cons u us2 =>
      have hlat : (e (.box i)).lnkAt k = true := lnkAt_iff.2 ⟨hdl.2, B, cs0, ver, hb, cellLnk_get.2 ⟨d, by simpa using hcs 0 d rfl, hdl.1⟩⟩
      have hcell := h.lnks i k hlat (by rw [hK]; rfl)
      have hu : u = (g.bx (lk i k)).h := by
       have hvk : vs[k]? = some u := by simpa using hus 0 u rfl
       rw [cell_of_heap hh, hvk] at hcell
       injection hcell
      have hbr := h.boxes (lk i k)
      rw [hK] at hbr
      refine ⟨[d], [u], us2, rfl, rfl, rfl, rfl, hc.2, ?_, ?_⟩
      ·have hc1 := hc.1
       obtain ⟨t, x, tip⟩ := d
       cases t <;> simp [DV.isLnk] at hdl
       exact hc1
      ·intro j e2 r2 y2 tip hd
       cases j with
       | zero =>
        simp only [Ty.split, List.getElem?_cons_zero, Option.some.injEq] at hd
        injection hd with q1 q2 _
        injection q1 with q1 q3
        subst q1; subst q3
        have q2 := eq_of_heq q2
        subst q2
        exact ⟨hdl.2, u, rfl, by rw [hu]; exact hbr.1⟩
       | succ j => simp [Ty.split] at hd
    ·cases hx
   ·cases hx
 | pair ta tb iha ihb =>
  intro k cs l us x hcs hus hc hx
  simp only [gather] at hx
  split at hx
  ·rename_i xa la hxa
   split at hx
   ·rename_i xb lb hxb
    injection hx with hx
    injection hx with hx1 hx2
    subst hx1; subst hx2
    obtain ⟨pre, us1, us2, q1, q2, q3, q4, q5, q6, q7⟩ := iha k cs la us xa hcs hus hc hxa
    obtain ⟨pre', us1', us2', p1, p2, p3, p4, p5, p6, p7⟩ := ihb (k + ta.sz) la lb us2 xb
     (fun j d hd => by rw [Nat.add_assoc]; refine hcs _ _ ?_; rw [q1, List.getElem?_append_right (by omega), q3, Nat.add_sub_cancel_left]; exact hd)
     (fun j u hu => by rw [Nat.add_assoc]; refine hus _ _ ?_; rw [q2, List.getElem?_append_right (by omega), q4, Nat.add_sub_cancel_left]; exact hu) q5 hxb
    refine ⟨pre ++ pre', us1 ++ us1', us2', by rw [q1, p1, List.append_assoc], by rw [q2, p2, List.append_assoc], by simp [Ty.sz, q3, p3], by simp [Ty.sz, q4, p4], p5, ⟨us1, us1', rfl, q6, p6⟩, ?_⟩
    intro j e2' r2 y2 tip hd
    have hla : (ta.split xa).length = ta.sz := by rw [(Cells.split _ _ _ q6).len, q4]
    simp only [Ty.split] at hd
    rcases Nat.lt_or_ge j ta.sz with hlt | hge
    ·rw [List.getElem?_append_left (by omega)] at hd
     obtain ⟨r1, u, r4, r5⟩ := q7 j e2' r2 y2 tip hd
     exact ⟨r1, u, by rw [List.getElem?_append_left (by omega)]; exact r4, r5⟩
    ·rw [List.getElem?_append_right (by omega), hla] at hd
     obtain ⟨r1, u, r4, r5⟩ := p7 (j - ta.sz) e2' r2 y2 tip hd
     rw [show k + ta.sz + (j - ta.sz) = k + j by omega] at r1 r5
     exact ⟨r1, u, by rw [List.getElem?_append_right (by omega), q4]; exact r4, r5⟩
   ·cases hx
  ·cases hx
theorem ownOut_lkL {own : Nat → Option Lab} {b i k : Nat} (hi : i < 1000000) (hk : k < 1000) (h : own b = some (.box (lk i k))) : ownOut own b = some (.arg 1000000) := by
 simp only [ownOut, h]
 have h1 := lk_ge i k
 have h2 : (lk i k - 2000000) / 1000 = i := by unfold lk; omega
 rw [if_neg (by omega), if_neg (by omega), h2, if_pos hi]
theorem end_str {P : Program} {G : Ctx} (hG : CtxOk P G) (h : St w0 T f0 n e a W g) {t' : Ty} {s : Nat} {B : TypeId} {x : t'.D} (hx : endCell G (.str t') e s B = some x) :
  ∃ v, (∃ ad, a.tmps.getD s undef = .pointer (some ad) ∧ (loadVar B ad).run P W = .ok v W) ∧ ResRep g.fix (ownOut g.own) W [.str t'] (x, ()) v := by
 simp only [endCell] at hx
 split at hx
 ·rename_i T' hT
  split at hx
  ·rename_i hc
   obtain ⟨hun, hag, hlk⟩ := hc
   split at hx
   ·rename_i i hes
    split at hx
    ·rename_i B' cs ver hb
     cases hc2 : Nat.blt i 1000000 && Nat.beq cs.length T'.sz <;> simp only [hc2, cond_true, cond_false] at hx
     ·cases hx
     simp only [Bool.and_eq_true, Nat.blt_eq] at hc2
     obtain ⟨hi, hlen⟩ := hc2
     have hlen := Nat.eq_of_beq_eq_true hlen
     split at hx
     ·rename_i y hy
      injection hx with hx
      subst hx
      have hs := h.slots s
      rw [hes] at hs
      have hv : a.tmps.getD s undef = .pointer (some ⟨(g.bx i).b, 0, none⟩) := hs
      have hbr := h.boxes i
      rw [hb] at hbr
      obtain ⟨vs, k1, k2, k3, k4, k5⟩ := hbr
      obtain ⟨pre, us1, us2, q1, q2, q3, q4, q5, q6, q7⟩ := gather_sound h hb k1 t' 0 cs [] vs.toList y (fun j d hd => by rw [Nat.zero_add]; exact hd) (fun j u hu => by rw [Nat.zero_add]; simpa using hu) k4 hy
      have hus2 : us2 = [] := by
       cases us2 with
       | nil => rfl
       | cons _ _ => exact q5.elim
      subst hus2
      rw [List.append_nil] at q2
      have hvl : vs.toList.length = T'.sz := by rw [← k4.len, hlen]
      have hload := load_agg (P := P) (hG.ty _ _ hT).1 (ad := ⟨(g.bx i).b, 0, none⟩) (W := W) (lo := 0) (vs := vs.toList) rfl hag (fun j u hu _ => by
       show W.cell? ⟨(g.bx i).b, 0 + j, none⟩ = some u
       rw [cell_of_heap k1]; simpa using hu) (by omega)
      have hfull : (vs.toList.drop 0).take T'.sz = vs.toList := by rw [List.drop_zero, List.take_of_length_le (by omega)]
      rw [hfull] at hload
      refine ⟨_, ⟨_, hv, loadVar_of hload⟩, vs.toList.toArray, rfl, by rw [q2]; exact q6, fun k e2 r2 y2 tip hd => ?_⟩
      obtain ⟨m1, u, m2, m3⟩ := q7 k e2 r2 y2 tip hd
      rw [Nat.zero_add] at m1 m3
      exact ⟨m1, linkOk_split t' y hlk k e2 r2 y2 tip hd, u, by rw [q2]; exact m2, m3.relab fun b hb => ownOut_lkL hi m1 hb⟩
     ·cases hx
    ·cases hx
   ·cases hx
  ·cases hx
 ·cases hx
theorem end_one {P : Program} {G : Ctx} (hG : CtxOk P G) (h : St w0 T f0 n e a W g) {m : Md} {rv : ResultVar} {x : m.ty.D} (hx : endOne G m e rv = some x) : ∃ v, OnesTo P W a.tmps [rv] [v] ∧ ResRep g.fix (ownOut g.own) W [m] (x, ()) v := by
 cases rv with
 | tmp t => exact ⟨_, ⟨rfl, trivial⟩, end_tmp h hx⟩
 | cell s B =>
  cases m with
  | val t' =>
   obtain ⟨v, h1, h2⟩ := end_cell hG h hx
   exact ⟨v, ⟨h1, trivial⟩, h2⟩
  | tip t' => simp [endOne, endCell] at hx
  | box B' t' => simp [endOne, endCell] at hx
  | nilp => simp [endOne, endCell] at hx
  | cap _ => simp [endOne, endCell] at hx
  | full _ _ => simp [endOne, endCell] at hx
  | own _ _ => simp [endOne, endCell] at hx
  | take _ _ => simp [endOne, endCell] at hx
  | str t' =>
   obtain ⟨v, h1, h2⟩ := end_str hG h hx
   exact ⟨v, ⟨h1, trivial⟩, h2⟩
theorem OnesTo.cons {P : Program} {tmps : Array Value} {rv : ResultVar} {v : Value} {l : List ResultVar} {vs : List Value} (h : OnesTo P W tmps [rv] [v]) (k : OnesTo P W tmps l vs) : OnesTo P W tmps (rv :: l) (v :: vs) := by
 cases rv <;> exact ⟨h.1, k⟩
theorem OnesTo.len {P : Program} {tmps : Array Value} : ∀ {l : List ResultVar} {vs : List Value}, OnesTo P W tmps l vs → vs.length = l.length
 | [], [], _ => rfl
 | [], _ :: _, h => h.elim
 | .tmp _ :: _, [], h => h.elim
 | .cell _ _ :: _, [], h => h.elim
 | .tmp _ :: l, _ :: vs, h => by have := OnesTo.len (l := l) (vs := vs) h.2; simp [this]
 | .cell _ _ :: l, _ :: vs, h => by have := OnesTo.len (l := l) (vs := vs) h.2; simp [this]
theorem EndVals.len {G : Ctx} : ∀ {rs : List Md} {l : List ResultVar} {e : Env} {x : (tupTy rs).D}, EndVals G rs l e x → l.length = rs.length
 | [], [], _, _, _ => rfl
 | [], _ :: _, _, _, h => h.elim
 | _ :: _, [], _, _, h => h.elim
 | _ :: rs, _ :: l, _, x, h => by have := EndVals.len (rs := rs) (l := l) (x := x.2) h.2; simp [this]
theorem end_tup {P : Program} {G : Ctx} (hG : CtxOk P G) (h : St w0 T f0 n e a W g) : ∀ (rs : List Md) (l : List ResultVar) (x : (tupTy rs).D), rs.all (fun m => isVal m || isOwn m) = true → EndVals G rs l e x → ∃ vs, OnesTo P W a.tmps l vs ∧ TupRep g.fix (ownOut g.own) W rs x vs
 | [], [], _, _, _ => ⟨[], trivial, trivial⟩
 | .val t' :: rs, rv :: l, x, ha, he => by
  obtain ⟨v, h1, h2⟩ := end_one hG h he.1
  obtain ⟨vs, k1, k2⟩ := end_tup hG h rs l x.2 (by simpa [isVal] using ha) he.2
  exact ⟨v :: vs, h1.cons k1, h2, k2⟩
 | .own el r :: rs, rv :: l, x, ha, he => by
  obtain ⟨v, h1, h2⟩ := end_one hG h he.1
  obtain ⟨vs, k1, k2⟩ := end_tup hG h rs l x.2 (by simpa [isVal, isOwn] using ha) he.2
  exact ⟨v :: vs, h1.cons k1, h2, k2⟩
 | .own _ _ :: _, [], _, _, he => he.elim
 | .tip _ :: _, _, _, ha, _ => by simp [isVal, isOwn] at ha
 | .box _ _ :: _, _, _, ha, _ => by simp [isVal, isOwn] at ha
 | .nilp s :: _, _, _, ha, _ => by simp [isVal, isOwn] at ha
 | .cap _ :: _, _, _, ha, _ => by simp [isVal, isOwn] at ha
 | .full _ _ :: _, _, _, ha, _ => by simp [isVal, isOwn] at ha
 | .take _ _ :: _, _, _, ha, _ => by simp [isVal, isOwn] at ha
 | .str _ :: _, _, _, ha, _ => by simp [isVal, isOwn] at ha
 | [], _ :: _, _, _, he => he.elim
 | .val _ :: _, [], _, _, he => he.elim
theorem end_res {P : Program} {G : Ctx} (hG : CtxOk P G) (h : St w0 T f0 n e a W g) {rs : List Md} {l : List ResultVar} {x : (tupTy rs).D} (ho : oneOnly rs = true) (he : EndVals G rs l e x) : ∃ vs, OnesTo P W a.tmps l vs ∧ ResRep g.fix (ownOut g.own) W rs x (packVal vs) := by
 match rs, x, ho, he with
 | [], x, ho, he =>
  cases l with
  | nil => exact ⟨[], trivial, #[], rfl, trivial⟩
  | cons => exact he.elim
 | [m], x, ho, he =>
  match l, he with
  | [rv], he =>
   obtain ⟨x1, u⟩ := x
   obtain ⟨v, h1, h2⟩ := end_one hG h he.1
   exact ⟨[v], h1, h2⟩
  | [], he => exact he.elim
  | _ :: _ :: _, he => exact he.2.elim
 | m1 :: m2 :: rs, x, ho, he =>
  have ha : (m1 :: m2 :: rs).all (fun m => isVal m || isOwn m) = true := by
   simp only [oneOnly, Bool.or_eq_true, Bool.and_eq_true] at ho
   rcases ho with ho | ho
   ·simp only [List.all_eq_true, Bool.or_eq_true] at ho ⊢
    exact fun m hm => .inl (ho m hm)
   ·exact ho.1
  obtain ⟨vs, h1, ht⟩ := end_tup hG h _ l x ha he
  refine ⟨vs, h1, ?_⟩
  have hl : 2 ≤ vs.length := by rw [h1.len, he.len]; simp
  match vs, hl, ht with
  | t1 :: t2 :: ts, _, ht =>
   have : packVal (t1 :: t2 :: ts) = .tuple (t1 :: t2 :: ts).toArray := rfl
   rw [this]
   cases m1 <;> cases m2 <;> exact ⟨_, rfl, by simpa using ht⟩
theorem ownOut_box {own : Nat → Option Lab} {b m : Nat} (hm : m < 1000000) (h : own b = some (.box (1000000 + m))) : ownOut own b = some (.arg m) := by
 simp only [ownOut, h]
 rw [if_neg (by omega), if_pos (by omega), Nat.add_sub_cancel_left]
theorem ownOut_lk {own : Nat → Option Lab} {b m k : Nat} (hk : k < 1000) (h : own b = some (.box (lk (1000000 + m) k))) : ownOut own b = some (.arg (lk m k)) := by
 simp only [ownOut, h]
 have h1 := lk_ge (1000000 + m) k
 have h2 : (lk (1000000 + m) k - 2000000) / 1000 = 1000000 + m := by unfold lk; omega
 have h3 : (lk (1000000 + m) k - 2000000) % 1000 = k := by unfold lk; omega
 rw [if_neg (by omega), if_neg (by omega), h2, h3, if_neg (by omega), Nat.add_sub_cancel_left]
theorem end_boxes (h : St w0 T f0 n e a W g) {fix : Nat → Nat → Prop} {own : Nat → Option Lab} {W0 : World} : ∀ (ps : List Md) (m : Nat) (z : (tupTy ps).D) (vs : List Value) (y : (tupTy (ps.filter Md.isBox)).D), m + ps.length ≤ 1000000 → ps.all Md.flat = true → ArgsRep fix own W0 m ps z vs →
  (∀ j v, vs[j]? = some v → f0.B (1000000 + (m + j)) = ⟨ptrBlock v, v, fun _ => undef⟩) → endBoxes ps m e = some y → BackRep g.fix (ownOut g.own) W m ps y vs
 | [], _, _, _, _, _, _, _, _, _ => trivial
 | .val _ :: _, _, _, [], _, _, _, h, _, _ => h.elim
 | .tip _ :: _, _, _, [], _, _, _, h, _, _ => h.elim
 | .box _ _ :: _, _, _, [], _, _, _, h, _, _ => h.elim
 | .nilp s :: _, _, _, [], _, _, _, h, _, _ => h.elim
 | .cap _ :: _, _, _, [], _, _, _, h, _, _ => h.elim
 | .full _ _ :: _, _, _, [], _, _, _, h, _, _ => h.elim
 | .own _ _ :: _, _, _, [], _, _, _, h, _, _ => h.elim
 | .take _ _ :: _, _, _, [], _, _, _, h, _, _ => h.elim
 | .str _ :: _, _, _, [], _, _, _, h, _, _ => h.elim
 | .str _ :: _, _, _, _ :: _, _, _, _, h, _, _ => h.elim
 | .take _ _ :: ps, m, z, v :: vs, y, hl, hfl, hargs, hB, he => end_boxes h ps (m + 1) z.2 vs y (by simp only [List.length_cons] at hl; omega) (by simp only [List.all_cons, Bool.and_eq_true] at hfl; exact hfl.2) hargs.2 (fun j B hj => by simpa [Nat.add_assoc, Nat.add_comm 1] using hB (j + 1) B (by simpa using hj)) he
 | .own el r :: ps, m, z, v :: vs, y, hl, hfl, hargs, hB, he => by
  simp only [List.length_cons] at hl
  simp only [List.all_cons, Bool.and_eq_true] at hfl
  simp only [endBoxes] at he
  split at he
  ·rename_i e1 r1 xs hv ver hbx
   split at he
   ·rename_i x hx
    split at hx
    ·have hr := as_row hx hv ver
     rw [hr] at hbx
     split at he
     ·rename_i y' hy'
      injection he with he
      subst he
      have hb0 := hB 0 v rfl
      rw [Nat.add_zero] at hb0
      have hbr := h.boxes (1000000 + m)
      rw [hbx] at hbr
      have hbr' : RowAt g.fix g.own W (.box (1000000 + m)) (g.bx (1000000 + m)).h el r x := hbr.1
      have hh : (g.bx (1000000 + m)).h = v := by rw [h.bxOld _ (by omega) (by omega), hb0]
      rw [hh] at hbr'
      refine ⟨hbr'.relab fun b hb => ?_, end_boxes h ps (m + 1) z.2 vs y' (by omega) hfl.2 hargs.2 (fun j B hj => by simpa [Nat.add_assoc, Nat.add_comm 1] using hB (j + 1) B (by simpa using hj)) hy'⟩
      exact ownOut_box (by omega) hb
     ·cases he
    ·cases hx
   ·cases he
  ·cases he
 | .nilp s :: ps, m, z, v :: vs, y, hl, hfl, hargs, hB, he => end_boxes h ps (m + 1) z.2 vs y (by simp only [List.length_cons] at hl; omega) (by simp only [List.all_cons, Bool.and_eq_true] at hfl; exact hfl.2) hargs.2 (fun j B hj => by simpa [Nat.add_assoc, Nat.add_comm 1] using hB (j + 1) B (by simpa using hj)) he
 | .cap _ :: ps, m, z, v :: vs, y, hl, hfl, hargs, hB, he => end_boxes h ps (m + 1) z.2 vs y (by simp only [List.length_cons] at hl; omega) (by simp only [List.all_cons, Bool.and_eq_true] at hfl; exact hfl.2) hargs.2 (fun j B hj => by simpa [Nat.add_assoc, Nat.add_comm 1] using hB (j + 1) B (by simpa using hj)) he
 | .full _ _ :: ps, m, z, v :: vs, y, hl, hfl, hargs, hB, he => end_boxes h ps (m + 1) z.2 vs y (by simp only [List.length_cons] at hl; omega) (by simp only [List.all_cons, Bool.and_eq_true] at hfl; exact hfl.2) hargs.2 (fun j B hj => by simpa [Nat.add_assoc, Nat.add_comm 1] using hB (j + 1) B (by simpa using hj)) he
 | .val _ :: ps, m, z, v :: vs, y, hl, hfl, hargs, hB, he => end_boxes h ps (m + 1) z.2 vs y (by simp only [List.length_cons] at hl; omega) (by simp only [List.all_cons, Bool.and_eq_true] at hfl; exact hfl.2) hargs.2 (fun j B hj => by simpa [Nat.add_assoc, Nat.add_comm 1] using hB (j + 1) B (by simpa using hj)) he
 | .tip _ :: ps, m, z, v :: vs, y, hl, hfl, hargs, hB, he => end_boxes h ps (m + 1) z.2 vs y (by simp only [List.length_cons] at hl; omega) (by simp only [List.all_cons, Bool.and_eq_true] at hfl; exact hfl.2) hargs.2 (fun j B hj => by simpa [Nat.add_assoc, Nat.add_comm 1] using hB (j + 1) B (by simpa using hj)) he
 | .box Bt t :: ps, m, z, v :: vs, y, hl, hfl, hargs, hB, he => by
  simp only [List.length_cons] at hl
  simp only [List.all_cons, Bool.and_eq_true] at hfl
  simp only [endBoxes] at he
  split at he
  ·rename_i T' cs ver hbx
   split at he
   ·rename_i x hx
    split at hx
    ·rename_i hT
     subst hT
     split at he
     ·rename_i y' hy'
      injection he with he
      subst he
      obtain ⟨⟨B, us0, h1, -⟩, h2⟩ := hargs
      have hb0 := hB 0 v rfl
      rw [Nat.add_zero] at hb0
      have hbx' : (g.bx (1000000 + m)).b = B := by rw [h.bxOld _ (by omega) (by omega), hb0, h1]; rfl
      have hbr := h.boxes (1000000 + m)
      rw [hbx] at hbr
      obtain ⟨us, k1, k2, k3, k4, k5⟩ := hbr
      rw [hbx'] at k1 k2 k3
      obtain ⟨pre, us1, us2, q1, q2, q3, q4, q5, q6, q7⟩ := gather_sound h hbx (by rw [hbx']; exact k1) t 0 cs [] us.toList x (fun j d hd => by rw [Nat.zero_add]; exact hd) (fun j u hu => by rw [Nat.zero_add]; simpa using hu) k4 hx
      have hus2 : us2 = [] := by
       cases us2 with
       | nil => rfl
       | cons _ _ => exact q5.elim
      subst hus2
      rw [List.append_nil] at q2
      refine ⟨⟨B, us, h1, k1, ?_, k3, by rw [q2]; exact q6, fun k e2 r2 y2 tip hd => ?_⟩, end_boxes h ps (m + 1) z.2 vs y' (by omega) hfl.2 h2 (fun j B hj => by simpa [Nat.add_assoc, Nat.add_comm 1] using hB (j + 1) B (by simpa using hj)) hy'⟩
      ·exact ownOut_box (by omega) k2
      ·obtain ⟨m1, u, m2, m3⟩ := q7 k e2 r2 y2 tip hd
       rw [Nat.zero_add] at m1 m3
       have hlo : t.linkOk = true := by have := hfl.1; simp only [Md.flat, Bool.and_eq_true] at this; exact this.1
       exact ⟨m1, linkOk_split t x hlo k e2 r2 y2 tip hd, u, by rw [q2]; exact m2, m3.relab fun b hb => ownOut_lk m1 hb⟩
     ·cases he
    ·cases hx
   ·cases he
  ·cases he
end
theorem cast_pair {A A' B B' : Type} (ha : A = A') (hb : B = B') (h : (A × B) = (A' × B')) (x : A × B) : cast h x = (cast ha x.1, cast hb x.2) := by
 subst ha; subst hb; rfl
theorem cast_list {A B : Type} (h : A = B) (h2 : List A = List B) (xs : List A) (i : Nat) : (cast h2 xs)[i]? = xs[i]?.map (cast h) := by
 subst h
 cases h3 : xs[i]? with
 | none => exact h3
 | some x => exact h3
theorem cast_len {A B : Type} (h : A = B) (h2 : List A = List B) (xs : List A) : (cast h2 xs).length = xs.length := by
 subst h; rfl
theorem unest_rep {fix : Nat → Nat → Prop} {W : World} : ∀ (r : Ty) (x : r.D) (cs : List Value), Rep fix W r x cs → (∀ (o : Nat) e2 r2 (y : List r2.D) tip, (r.split x)[o]? = some ⟨.osl e2 r2, y, tip⟩ → ∃ u, cs[o]? = some u ∧ Rep fix W (.sl e2 r2) y [u]) →
  Rep fix W r.unest (cast r.unest_D.symm x) cs
 | .osl e r, x, cs, h, hs => by
  obtain ⟨v, rfl, -⟩ := h
  obtain ⟨u, h1, h2⟩ := hs 0 e r x false rfl
  injection h1 with h1
  subst h1
  exact h2
 | .unit, x, cs, h, _ => h
 | .int _, x, cs, h, _ => h
 | .bool, x, cs, h, _ => h
 | .str, x, cs, h, _ => h
 | .sl _ _, x, cs, h, _ => h
 | .any, x, cs, h, _ => h
 | .clo _ _, x, cs, h, _ => h
 | .pair a b, x, cs, h, hs => by
  obtain ⟨c1, c2, rfl, h1, h2⟩ := h
  have l1 : c1.length = (a.split x.1).length := by rw [h1.len, split_len]
  have hc : cast (Ty.unest_D (.pair a b)).symm x = ((cast a.unest_D.symm x.1, cast b.unest_D.symm x.2) : (Ty.pair a b).unest.D) := cast_pair a.unest_D.symm b.unest_D.symm _ x
  rw [hc]
  refine ⟨c1, c2, rfl, unest_rep a _ _ h1 fun o e2 r2 y tip hd => ?_, unest_rep b _ _ h2 fun o e2 r2 y tip hd => ?_⟩
  ·have ho := (List.getElem?_eq_some_iff.1 hd).1
   obtain ⟨u, k1, k2⟩ := hs o e2 r2 y tip (by
    show (a.split x.1 ++ b.split x.2)[o]? = _
    rw [List.getElem?_append_left ho]; exact hd)
   rw [List.getElem?_append_left (by omega)] at k1
   exact ⟨u, k1, k2⟩
  ·obtain ⟨u, k1, k2⟩ := hs ((a.split x.1).length + o) e2 r2 y tip (by
    show (a.split x.1 ++ b.split x.2)[(a.split x.1).length + o]? = _
    rw [List.getElem?_append_right (by omega), Nat.add_sub_cancel_left]; exact hd)
   rw [List.getElem?_append_right (by omega), l1, Nat.add_sub_cancel_left] at k1
   exact ⟨u, k1, k2⟩
theorem St.thawNest {w0 : World} {T : Nat → Prop} {f0 : F0} {n : Nat} {e : Env} {a : Act} {W : World} {g : Gh} (h : St w0 T f0 n e a W g) {s j hv ver : Nat} {el : TypeId} {r : Ty} {xs : List r.D} (hs : e (.slot s) = .hdr j hv) (hb : e (.box j) = .row el r xs hv ver) :
  ∃ g', g'.bx = g.bx ∧ St w0 T f0 n ((e.set (.slot s) (.val ⟨.sl el r.unest, unestL r xs, false⟩)).set (.box j) (.gone hv (ver + 1))) a W g' := by
 have hbr := h.boxes j
 rw [hb] at hbr
 obtain ⟨-, hsub⟩ := hbr
 have hp := h.ptr s
 rw [hs] at hp
 have hv' := (hdr_row h hp hb).1
 obtain ⟨h1, ⟨A, c, k1, k2, k3⟩, hq⟩ := h.leave hb
 let F : Nat → Prop := fun b => g.own b = some (.box j) ∨ ∃ k, g.own b = some (.cell j k)
 let g' : Gh := { g with fix := fun b' o => g.fix b' o ∨ F b' }
 have hmono : ∀ b o, g.fix b o → g'.fix b o ∧ ∀ u, W.cell? ⟨b, o, none⟩ = some u → W.cell? ⟨b, o, none⟩ = some u := fun b o hf => ⟨.inl hf, fun _ h => h⟩
 have hown : ∀ b, F b → ∃ q, g.own b = some q ∧ (q = .box j ∨ ∃ k, q = .cell j k) := fun b hF => by
  rcases hF with hF | ⟨k, hF⟩
  ·exact ⟨_, hF, .inl rfl⟩
  ·exact ⟨_, hF, .inr ⟨k, rfl⟩⟩
 have hcfree : ∀ k, Free (e.set (.box j) (.gone hv (ver + 1))) (.cell j k) := fun k => by
  refine ⟨fun t ht => (by cases ht), fun i' T' cs' v' hbx => ⟨by simp, fun jj d hj _ => ?_⟩, fun i' hbx => ⟨by simp, fun k' hk => ?_⟩⟩
  ·injection hj with hj _
   subst hj
   simp [Env.set] at hbx
  ·injection hk with hk _
   subst hk
   simp [Env.set, PV.isR] at hbx
 have h2 : St w0 T f0 n (e.set (.box j) (.gone hv (ver + 1))) a W g' := by
  refine h1.move (X := fun q => q = .box j ∨ ∃ k, q = .cell j k) ⟨hmono, fun b' q hb' hx => ⟨hb', rfl, fun o ho => ?_⟩⟩ (fun q hq' => ?_) (fun _ _ => rfl) rfl rfl rfl (Nat.le_refl _) (fun _ _ _ => rfl) h1.ownNew (fun b' o hf => ?_) (fun b' o hb' ht hf => ?_)
  ·rcases ho with ho | ho
   ·exact ho
   ·obtain ⟨q', m1, m2⟩ := hown _ ho
    rw [m1] at hb'; injection hb' with hb'; subst hb'; exact absurd m2 hx
  ·rcases hq' with rfl | ⟨k, rfl⟩
   ·exact hq
   ·exact hcfree k
  ·rcases hf with hf | hf
   ·exact h.fixLt b' o hf
   ·obtain ⟨q', m1, -⟩ := hown _ hf
    exact (h.ownNew _ _ m1).1
  ·rcases hf with hf | hf
   ·exact hf
   ·obtain ⟨q', m1, -⟩ := hown _ hf
    exact absurd ((h.ownNew _ _ m1).2 hb') ht
 have hlen : (unestL r xs).length = xs.length := cast_len r.unest_D.symm _ xs
 have hrep : Rep g'.fix W (.sl el r.unest) (unestL r xs) [(g.bx j).h] := by
  rw [k1]
  refine ⟨A, c, by rw [hlen], by rw [hlen]; exact k2, fun hne => ?_⟩
  rcases k3 with ⟨rfl, rfl⟩ | ⟨b, off, cur, cs, rfl, m2, m3, m4, m5, m6, m7, m8, m9⟩
  ·have : xs = [] := List.eq_nil_of_length_eq_zero (by have := k2.1; omega)
   subst this
   exact absurd (List.eq_nil_of_length_eq_zero (by rw [hlen]; rfl)) hne
  ·refine ⟨_, rfl, rfl, fun i x hx => ?_⟩
   rw [unestL, cast_list r.unest_D.symm, Option.map_eq_some_iff] at hx
   obtain ⟨x0, hx0, rfl⟩ := hx
   have hi := (List.getElem?_eq_some_iff.1 hx0).1
   have hrow0 := m8.2 i x0 hx0
   refine ⟨_, unest_rep r x0 _ (Rep.mono hmono _ _ _ hrow0) fun o e2 r2 y tip hd => ?_, fun jj u hu => ?_⟩
   ·have ho := sub_lt hd
    obtain ⟨b', off', n', c', s1, s2, s3, s4⟩ := hsub i x0 hx0 o e2 r2 y tip hd
    rw [k1] at s1
    injection s1 with s1 _ _
    injection s1 with s1
    injection s1 with s1 s1' _
    subst s1; subst s1'
    refine ⟨(g.bx j).sub (i * r.sz + o), ?_, ?_⟩
    ·have hlt : i * r.sz + o < cs.length := by
      rw [m8.1]
      have : i * r.sz + r.sz ≤ xs.length * r.sz := by rw [← Nat.succ_mul]; exact Nat.mul_le_mul_right _ hi
      omega
     rw [List.getElem?_take_of_lt ho, List.getElem?_drop]
     have q := m9 _ _ (List.getElem?_eq_getElem hlt)
     rw [m2.cell, Nat.add_assoc, q] at s3
     rw [List.getElem?_eq_getElem hlt]
     exact s3
    ·obtain ⟨A2, c2, t1, t2, t3⟩ := s4
     rw [t1]
     rcases t3 with ⟨rfl, rfl⟩ | ⟨b2, off2, cur2, cs2, rfl, u2, u3, u4, u5, u6, u7, u8, u9⟩
     ·have : y = [] := List.eq_nil_of_length_eq_zero (by have := t2.1; omega)
      subst this
      exact ⟨none, 0, rfl, t2, fun hn => absurd rfl hn⟩
     ·exact Rep.of_rows (u8.mono hmono) t2 fun k u hu => ⟨.inr (.inr ⟨_, u3⟩), by rw [u2.cell]; exact u9 _ _ hu⟩
   ·rw [List.getElem?_take] at hu
    split at hu
    ·rw [List.getElem?_drop] at hu
     refine ⟨.inr (.inl m3), ?_⟩
     show W.cell? ⟨b, off + i * r.unest.sz + jj, none⟩ = some u
     rw [unest_sz, m2.cell, Nat.add_assoc]
     exact m9 _ _ hu
    ·cases hu
 rw [← hv'] at hrep
 have h3 := h2.setSlot (t := s) (pv := .val ⟨.sl el r.unest, unestL r xs, false⟩) ⟨by obtain ⟨A, c, e1, _⟩ := hrep; injection e1 with e1; rw [e1]; rfl, hrep, fun hh => by cases hh⟩ (not_ptr rfl _)
 have he : (e.set (.box j) (.gone hv (ver + 1))).set (.slot s) (.val ⟨.sl el r.unest, unestL r xs, false⟩) = (e.set (.slot s) (.val ⟨.sl el r.unest, unestL r xs, false⟩)).set (.box j) (.gone hv (ver + 1)) := by
  funext p
  cases p <;> simp [Env.set]
 rw [he] at h3
 exact ⟨g', rfl, h3⟩
theorem endThaw_sound {w0 : World} {T : Nat → Prop} {f0 : F0} {n : Nat} {a : Act} {W : World} : ∀ (l : List ResultVar) {e : Env} {g : Gh}, St w0 T f0 n e a W g → ∃ g', g'.bx = g.bx ∧ St w0 T f0 n (endThaw l e) a W g'
 | [], e, g, h => ⟨g, rfl, h⟩
 | .cell _ _ :: l, e, g, h => endThaw_sound l h
 | .tmp t :: l, e, g, h => by
  simp only [endThaw]
  split
  ·rename_i j hv hs
   split
   ·rename_i el r xs hv' ver hb
    cases hc : Nat.beq hv hv' <;> simp only [cond_true, cond_false]
    ·exact endThaw_sound l h
    ·have := Nat.eq_of_beq_eq_true hc
     subst this
     cases hpl : r.plain <;> simp only [cond_true, cond_false]
     ·obtain ⟨g', k1, h2⟩ := h.thawNest hs hb
      obtain ⟨g2, k2, h3⟩ := endThaw_sound l h2
      exact ⟨g2, k2.trans k1, h3⟩
     ·obtain ⟨g', k1, h2⟩ := h.thawSlot hs hb
      obtain ⟨g2, k2, h3⟩ := endThaw_sound l h2
      exact ⟨g2, k2.trans k1, h3⟩
   ·exact endThaw_sound l h
  ·exact endThaw_sound l h
theorem init_box {fix : Nat → Nat → Prop} {own : Nat → Option Lab} {W : World} : ∀ (ps : List Md) (n : Nat) (z : (tupTy ps).D) (vs : List Value), n + ps.length ≤ 1000000 → ArgsRep fix own W n ps z vs → ∀ i B cs ver, initEnv ps n z (.box i) = .box B cs ver →
  ∃ m v Bk us, i = 1000000 + (n + m) ∧ n + m < 1000000 ∧ vs[m]? = some v ∧ v = .pointer (some ⟨Bk, 0, none⟩) ∧ W.heap[Bk]? = some (.cells us B (0, 0)) ∧ cs.length = us.size
 | [], _, _, _, _, _, _, _, _, _, h => by cases h
 | md :: ps, n, z, [], _, h, _, _, _, _, _ => by cases md <;> exact h.elim
 | md :: ps, n, z, v :: vs, hl, ha, i, B, cs, ver, h => by
  simp only [List.length_cons] at hl
  have up : ∀ {z' : (tupTy ps).D}, ArgsRep fix own W (n + 1) ps z' vs → initEnv ps (n + 1) z' (.box i) = .box B cs ver → ∃ m v', ∃ Bk us, i = 1000000 + (n + m) ∧ n + m < 1000000 ∧ (v :: vs)[m]? = some v' ∧ v' = .pointer (some ⟨Bk, 0, none⟩) ∧ W.heap[Bk]? = some (.cells us B (0, 0)) ∧ cs.length = us.size := fun ha' h' => by
   obtain ⟨m, v', Bk, us, q1, q2, q3, q4⟩ := init_box ps (n + 1) _ vs (by omega) ha' i B cs ver h'
   exact ⟨m + 1, v', Bk, us, by omega, by omega, by simpa using q3, q4⟩
  cases md with
  | val t => exact up ha.2 (by simpa [initEnv, Env.set] using h)
  | tip t => exact up ha.2 (by cases t <;> simpa [initEnv, Env.set] using h)
  | nilp => exact up ha.2 (by simpa [initEnv, Env.set] using h)
  | cap t => exact up ha.2 (by simpa [initEnv, Env.set] using h)
  | full t b => exact up ha.2 (by simpa [initEnv, Env.set] using h)
  | str t => exact ha.elim
  | take el r =>
   simp only [initEnv, Env.set, Place.box.injEq, reduceCtorEq, if_false] at h
   split at h
   ·cases h
   ·exact up ha.2 h
  | own el r =>
   simp only [initEnv, Env.set, Place.box.injEq, reduceCtorEq, if_false] at h
   split at h
   ·cases h
   ·exact up ha.2 h
  | box T t =>
   simp only [initEnv, Env.set, Place.box.injEq, reduceCtorEq, if_false] at h
   split at h
   ·rename_i hi
    injection h with h1 h2 h3
    subst h1; subst h2
    obtain ⟨Bk, us, k1, k2, -, -, k5, -⟩ := ha.1
    exact ⟨0, v, Bk, us, by omega, by omega, rfl, k1, k2, by rw [(Cells.split _ _ _ k5).lnk.len]; simp⟩
   ·rcases setRows_box (t.split z.1) 0 (initEnv ps (n + 1) z.2) i with ⟨k1, -⟩ | ⟨_, _, _, _, _, _, _, k3⟩
    ·rw [k1] at h; exact up ha.2 h
    ·rw [k3] at h; cases h
theorem fn_sound {P : Program} {G : Ctx} (hG : CtxOk P G) {f : FuncId} {fn : Func} {A : Ann} {fuel : Nat} {ps rs : List Md} (hf : P.funcs[f]? = some fn) (hb : fn.body.isSome = true) (hn : (fn.name == "runtime.NumGoroutine") = false) :
  FOk P f ⟨ps, rs, fnRun G A fuel fn ps rs⟩ := by
 refine ⟨⟨fn, hf, hb, hn⟩, fun z r W fix own vs hz hfix hown hargs => ?_⟩
 cases hbody : fn.body with
 | none => rw [hbody] at hb; cases hb
 | some c =>
  simp only [fnRun, hbody] at hz
  cases hchk : Nat.ble ps.length fn.ntmps && Nat.ble fn.ntmps 1000000 && Nat.beq fn.ntmps G.n && oneOnly rs && ps.all Md.flat <;> simp only [hchk, Bool.not_true, Bool.not_false, cond_true, cond_false] at hz
  ·cases hz
  simp only [Bool.and_eq_true] at hchk
  obtain ⟨⟨⟨⟨c1, c2⟩, c3⟩, c4⟩, c5⟩ := hchk
  have c1 := Nat.le_of_ble_eq_true c1
  have c2 := Nat.le_of_ble_eq_true c2
  have c3 := Nat.eq_of_beq_eq_true c3
  have hlen : vs.length = ps.length := hargs.length
  let tmps := vs.toArray ++ Array.replicate (fn.ntmps - vs.toArray.size) undef
  let val : Nat → Value := fun i => tmps.getD i undef
  let bx0 : Nat → Bx := bxIn W val
  let g0 : Gh := ⟨fix, ownIn ps own, bx0⟩
  have hval : ∀ j v, vs[j]? = some v → val j = v := fun j v hj => by
   simp only [val, tmps, Array.getD_eq_getD_getElem?, Array.getElem?_append]
   have hlt : j < vs.length := (List.getElem?_eq_some_iff.1 hj).1
   simp [hlt]
   rw [List.getElem?_eq_getElem hlt] at hj
   injection hj
  have hvlt : ∀ i B, val i = .pointer (some ⟨B, 0, none⟩) → i < 1000000 := fun i B hv => by
   rcases Nat.lt_or_ge i tmps.size with hlt | hge
   ·have : tmps.size = fn.ntmps := by simp only [tmps, Array.size_append, Array.size_replicate, List.size_toArray]; omega
    omega
   ·have : val i = undef := by simp only [val, Array.getD_eq_getD_getElem?, Array.getElem?_eq_none hge]; rfl
    rw [this] at hv; cases hv
  have hbx : ∀ i B, val i = .pointer (some ⟨B, 0, none⟩) → (g0.bx (1000000 + i)).b = B := fun i B hv => bxIn_eq (hvlt i B hv) hv
  have hst0 : St W (fun b => own b ≠ none) ⟨fix, bx0⟩ G.n (initEnv ps 0 z) { tmps := tmps, defers := [] } W g0 := by
   refine ⟨rfl, ?_, rfl, rfl, rfl, Nat.le_refl _, fun _ _ _ => rfl, fun b q hq => ?_, hfix, fun b o h => ⟨h, fun _ h => h⟩, fun b o _ _ h => h, by omega, fun _ _ _ => rfl, fun t => init_ptrs ps z _ t _ (by omega) (fun h => bxIn_h W val h) (fun h => bxIn_t W val h), ?_, ?_, ?_⟩
   ·simp only [tmps, Array.size_append, Array.size_replicate, List.size_toArray]; omega
   ·obtain ⟨q', hq'⟩ := ownIn_none hq
    exact ⟨hown b q' hq', fun _ => by simp [hq']⟩
   ·exact init_slots (g := g0) (own := own) (val := val) (PS := ps) (fun i b t hi ho => by
     have hlt := (List.getElem?_eq_some_iff.1 hi).1
     have hlt2 : ¬ 2000000 ≤ i := by omega
     simp [g0, ownIn, ho, hi, hlt2]) hbx ps 0 z vs hargs (fun j => by rw [Nat.zero_add]) (fun j v hj => by rw [Nat.zero_add]; exact hval j v hj)
   ·exact init_boxes (g := g0) (own := own) (val := val) (PS := ps) (fun i b m hi hm ho => by
     have hlt := (List.getElem?_eq_some_iff.1 hi).1
     have hlt2 : ¬ 2000000 ≤ i := by omega
     cases m <;> simp [Md.isBox] at hm <;> simp [g0, ownIn, ho, hi, hlt2]) (fun i b el r hi ho => by
     have hlt := (List.getElem?_eq_some_iff.1 hi).1
     have hlt2 : ¬ 2000000 ≤ i := by omega
     simp [g0, ownIn, ho, hi, hlt2]) hbx (fun i hi => bxIn_h W val hi) (fun i el r hi => bxIn_t W val (by have := (List.getElem?_eq_some_iff.1 hi).1; omega)) (fun i m hi => List.all_eq_true.1 c5 m (List.mem_of_getElem? hi)) (fun i k b B t hi hk ho => by
     have h1 := lk_ge i k
     have h2 : (lk i k - 2000000) / 1000 = i := by unfold lk; omega
     have h3 : (lk i k - 2000000) % 1000 = k := by unfold lk; omega
     simp [g0, ownIn, ho, h1, h2, h3]) (fun i k B us t u hi hv hh hu hk => by
     show (bxIn W val (lk (1000000 + i) k)).h = u
     rw [bxIn_lk W val hk, hv]
     show (W.cell? ⟨(g0.bx (1000000 + i)).b, k, none⟩).getD undef = u
     rw [cell_of_heap hh, hu]; rfl) ps 0 z vs (by omega) hargs (fun j => by rw [Nat.zero_add]) (fun j v hj => by rw [Nat.zero_add]; exact hval j v hj)
   ·intro i' k' q1 q2
    obtain ⟨hk, B, cs, ver, hb, hl⟩ := lnkAt_iff.1 q1
    obtain ⟨m, v, Bk, us, p1, p2, p3, p4, p5, p6⟩ := init_box ps 0 z vs (by omega) hargs i' B cs ver hb
    rw [Nat.zero_add] at p1 p2
    subst p1
    have hv := hval m v p3
    have hbm : (g0.bx (1000000 + m)).b = Bk := hbx m Bk (by rw [hv, p4])
    have hlt : k' < us.size := by have := cellLnk_lt hl; omega
    show W.cell? ⟨(g0.bx (1000000 + m)).b, k', none⟩ = some (bxIn W val (lk (1000000 + m) k')).h
    rw [bxIn_lk W val hk, hv, p4, hbm]
    show _ = some ((W.cell? ⟨Bk, k', none⟩).getD undef)
    rw [cell_of_heap p5, Array.getElem?_eq_getElem hlt]
    rfl
  have fin : ∀ e' a' W' g', endAll G rs ps fn.results.toList e' = some r → St W (fun b => own b ≠ none) ⟨fix, bx0⟩ G.n e' a' W' g' → a'.defers = [] ∧ ∃ v, (results fn a'.tmps).run P W' = .ok v W' ∧
    (fun (en : Ending) W' => ∃ v fix' own', en = .returned v ∧ After W W' fix fix' own own' ∧ ResRep fix' own' W' rs (splitR rs (ps.filter Md.isBox) r).1 v ∧ BackRep fix' own' W' 0 ps (splitR rs (ps.filter Md.isBox) r).2 vs) (.returned v) W' := by
   intro e' a' W' g' he h'
   obtain ⟨t2, t3⟩ := endAll_split rs ps _ e' r he
   obtain ⟨us, u1, u2⟩ := end_res hG h' c4 t2
   refine ⟨h'.defers, packVal us, results_run u1, _, g'.fix, ownOut g'.own, rfl, ?_, u2, end_boxes h' ps 0 z vs _ (by omega) c5 hargs (fun j B hj => ?_) t3⟩
   ·exact ⟨h'.os, h'.tape, h'.output, h'.size, fun b hb ho => h'.old b hb (fun hh => hh ho), h'.fixOld, fun b o hb ho hf => h'.fixNew b o hb (fun hh => hh ho) hf, h'.fixLt, fun b q hq => by
     obtain ⟨q', hq'⟩ := ownOut_none hq
     exact h'.ownNew b q' hq'⟩
   ·rw [Nat.zero_add]
    show bxIn W val (1000000 + j) = _
    rw [bxIn_at W val (by have := (List.getElem?_eq_some_iff.1 hj).1; omega), hval j B hj]
  refine calls_of_wp hf hbody (exec_sound hG c hst0 hz fun x e' a' W' g' hk _ h' => ?_)
  have both : (bif rs.all isVal then endAll G rs ps fn.results.toList (endThaw fn.results.toList e') else endAll G rs ps fn.results.toList e') = some r → _ := fun hk => by
   cases ha : rs.all isVal <;> simp only [ha, cond_true, cond_false] at hk
   ·exact fin e' a' W' g' hk h'
   ·obtain ⟨g2, -, h2⟩ := endThaw_sound fn.results.toList h'
    exact fin _ a' W' g2 hk h2
  cases x with
  | normal => exact both hk
  | ret => exact both hk
  | exit id => cases hk
end Go.PM
