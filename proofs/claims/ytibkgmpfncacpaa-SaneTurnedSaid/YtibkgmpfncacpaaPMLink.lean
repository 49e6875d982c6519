/- PM: boxes whose cells lead to rows: they are lent, and come back. -/
import Derived.Test.YtibkgmpfncacpaaPMPlace
namespace Go.PM
open Go
theorem lk_inj {i k i' k' : Nat} (h : k < 1000) (h' : k' < 1000) (he : lk i k = lk i' k') : i = i' ∧ k = k' := by unfold lk at he; omega
theorem lk_ne (i k : Nat) : lk i k ≠ i := by unfold lk; omega
theorem lnkAt_iff {pv : PV} {k : Nat} : pv.lnkAt k = true ↔ k < 1000 ∧ ∃ B cs ver, pv = .box B cs ver ∧ cellLnk cs k = true := by
 cases pv
 case box B cs ver =>
  simp only [PV.lnkAt, Bool.and_eq_true, Nat.blt_eq]
  exact ⟨fun ⟨h1, h2⟩ => ⟨h1, B, cs, ver, rfl, h2⟩, fun ⟨h1, _, _, _, h, h2⟩ => by cases h; exact ⟨h1, h2⟩⟩
 all_goals simp [PV.lnkAt]
def argOf (j : Nat) : Nat := if j < 2000000 then j else (j - 2000000) / 1000
theorem argOf_lk {p k : Nat} (h : k < 1000) : argOf (lk p k) = p := by
 unfold argOf lk
 rw [if_neg (by omega)]
 omega
theorem argOf_small {j : Nat} (h : j < 2000000) : argOf j = j := by unfold argOf; rw [if_pos h]
theorem as_row' {e1 e2 : TypeId} {r1 r2 : Ty} {xs : List r1.D} {x : (Ty.sl e2 r2).D} (h : (DV.mk (.sl e1 r1) xs false).as (.sl e2 r2) = some x) : ∀ hv v, PV.row e1 r1 xs hv v = .row e2 r2 x hv v := by
 obtain ⟨tp, h⟩ := DV.as_eq h
 injection h with h1 h2 _
 injection h1 with h1 h3
 subst h1; subst h3
 have h2 := eq_of_heq h2
 subst h2
 exact fun _ _ => rfl
theorem RowAt.keep' {fix : Nat → Nat → Prop} {own own' : Nat → Option Lab} {W : World} {q : Lab} {v : Value} {el : TypeId} {r : Ty} {xs : List r.D} (h : RowAt fix own W q v el r xs) (hk : ∀ b, own b = some q → own' b = some q) : RowAt fix own' W q v el r xs := by
 obtain ⟨A, c, h1, h2, h3⟩ := h
 exact ⟨A, c, h1, h2, h3.imp id fun ⟨b, off, cur, cs, k1, k2, k3, k4⟩ => ⟨b, off, cur, cs, k1, k2, hk _ k3, k4⟩⟩
section
variable {w0 : World} {T : Nat → Prop} {f0 : F0} {n : Nat} {e : Env} {a : Act} {W : World} {g : Gh}
theorem Cells.lnk {fix : Nat → Nat → Prop} : ∀ {ds : List DV} {us : List Value}, Cells fix W ds us → Cells fix W (lnkCells ds) us
 | [], [], _ => trivial
 | d :: ds, u :: us, h => by
  refine ⟨?_, Cells.lnk h.2⟩
  have h1 := h.1
  obtain ⟨t, x, tip⟩ := d
  cases t <;> exact h1
theorem lnkCells_get {ds : List DV} {k : Nat} (h : cellLnk (lnkCells ds) k = true) : ∃ d, ds[k]? = some d ∧ (d.t = .any ∨ ∃ e r, d.t = .osl e r) := by
 obtain ⟨d', h1, h2⟩ := cellLnk_get.1 h
 simp only [lnkCells, List.getElem?_map, Option.map_eq_some_iff] at h1
 obtain ⟨d, h3, rfl⟩ := h1
 refine ⟨d, h3, ?_⟩
 obtain ⟨t, x, tip⟩ := d
 cases t <;> simp [lnkCell, DV.isLnk] at h2 ⊢
theorem lnkCells_tip {ds : List DV} (h : ∀ d ∈ ds, d.tip = false) : ∀ d ∈ lnkCells ds, d.tip = false := by
 intro d hd
 simp only [lnkCells, List.mem_map] at hd
 obtain ⟨d', h1, rfl⟩ := hd
 have := h d' h1
 obtain ⟨t, x, tip⟩ := d'
 cases t <;> first | exact this | rfl
theorem leaf_sub {t : Ty} {y : t.D} (h : (∀ a b, t ≠ .pair a b) ∧ ∀ e r, t ≠ .osl e r) {j : Nat} {e2 : TypeId} {r2 : Ty} {y2 : List r2.D} {tip : Bool} (hd : (t.split y)[j]? = some ⟨.osl e2 r2, y2, tip⟩) : False := by
 cases t <;> simp only [Ty.split] at hd
 case pair a b => exact h.1 a b rfl
 case osl e r => exact h.2 e r rfl
 all_goals (cases j <;> simp at hd)
theorem lendK_sound {bxs : List Nat} {i p : Nat} {B : TypeId} {cs0 : List DV} {ver : Nat} {vs : Array Value} {e' : Env} : ∀ (t : Ty) (k : Nat) (cs : List DV) (us : List Value) {e : Env} {g : Gh} {c : t.D → List DV → Prog}, St w0 T f0 n e a W g → e (.box i) = .box B cs0 ver →
  W.heap[(g.bx i).b]? = some (.cells vs B (0, 0)) → (∀ (j : Nat) d, cs[j]? = some d → cs0[k + j]? = some d) → (∀ (j : Nat) u, us[j]? = some u → vs[k + j]? = some u) → Cells g.fix W cs us → (lendK bxs i t k cs c).run e some = some e' →
  ∃ y pre l us1 us2 e1 g1, cs = pre ++ l ∧ us = us1 ++ us2 ∧ pre.length = t.sz ∧ us1.length = t.sz ∧ Cells g.fix W l us2 ∧ (c y l).run e1 some = some e' ∧ St w0 T f0 n e1 a W g1 ∧ g1.fix = g.fix ∧ g1.bx = g.bx ∧ e1 (.box i) = .box B cs0 ver ∧ Rep g.fix W t y us1 ∧
   (∀ (j : Nat) e2 r2 (y2 : List r2.D) tip, (t.split y)[j]? = some ⟨.osl e2 r2, y2, tip⟩ → k + j < 1000 ∧ r2.plain = true ∧ ∃ u, us1[j]? = some u ∧ RowAt g1.fix g1.own W (.arg (lk p (k + j))) u e2 r2 y2) ∧
   ∀ b x, (∀ m, x = .box m → m < 2000000) → g.own b = some x → g1.own b = some x := by
 intro t
 have leaf : ∀ (t : Ty), ((∀ a b, t ≠ .pair a b) ∧ ∀ e r, t ≠ .osl e r) → ∀ (k : Nat) (cs : List DV) (us : List Value) {e : Env} {g : Gh} {c : t.D → List DV → Prog}, St w0 T f0 n e a W g → e (.box i) = .box B cs0 ver → Cells g.fix W cs us →
   (match t.build cs with
    | some (y, l) => c y l
    | none => Prog.fail).run e some = some e' →
   ∃ y pre l us1 us2 e1 g1, cs = pre ++ l ∧ us = us1 ++ us2 ∧ pre.length = t.sz ∧ us1.length = t.sz ∧ Cells g.fix W l us2 ∧ (c y l).run e1 some = some e' ∧ St w0 T f0 n e1 a W g1 ∧ g1.fix = g.fix ∧ g1.bx = g.bx ∧ e1 (.box i) = .box B cs0 ver ∧ Rep g.fix W t y us1 ∧
    (∀ (j : Nat) e2 r2 (y2 : List r2.D) tip, (t.split y)[j]? = some ⟨.osl e2 r2, y2, tip⟩ → k + j < 1000 ∧ r2.plain = true ∧ ∃ u, us1[j]? = some u ∧ RowAt g1.fix g1.own W (.arg (lk p (k + j))) u e2 r2 y2) ∧
    ∀ b x, (∀ m, x = .box m → m < 2000000) → g.own b = some x → g1.own b = some x := by
  intro t ht k cs us e g c h hb hc hr
  split at hr
  ·rename_i y l hy
   obtain ⟨pre, hp1, hp2, hp3⟩ := Ty.build_sound t cs l y hy
   subst hp1
   obtain ⟨v1, v2, hv, hc1, hc2⟩ := Cells.parts hc
   exact ⟨y, pre, l, v1, v2, e, g, rfl, hv, hp2, by rw [← hc1.len]; exact hp2, hc2, hr, h, rfl, rfl, hb, hp3 _ _ _ hc1, fun j e2 r2 y2 tip hd => (leaf_sub ht hd).elim, fun b x _ hx => hx⟩
  ·simp [Prog.run] at hr
 induction t with
 | unit => intro k cs us e g c h hb hh hcs hus hc hr; exact leaf .unit ⟨fun _ _ h => (by cases h), fun _ _ h => (by cases h)⟩ k cs us h hb hc hr
 | int kd => intro k cs us e g c h hb hh hcs hus hc hr; exact leaf (.int kd) ⟨fun _ _ h => (by cases h), fun _ _ h => (by cases h)⟩ k cs us h hb hc hr
 | bool => intro k cs us e g c h hb hh hcs hus hc hr; exact leaf .bool ⟨fun _ _ h => (by cases h), fun _ _ h => (by cases h)⟩ k cs us h hb hc hr
 | str => intro k cs us e g c h hb hh hcs hus hc hr; exact leaf .str ⟨fun _ _ h => (by cases h), fun _ _ h => (by cases h)⟩ k cs us h hb hc hr
 | sl el r _ => intro k cs us e g c h hb hh hcs hus hc hr; exact leaf (.sl el r) ⟨fun _ _ h => (by cases h), fun _ _ h => (by cases h)⟩ k cs us h hb hc hr
 | any => intro k cs us e g c h hb hh hcs hus hc hr; exact leaf .any ⟨fun _ _ h => (by cases h), fun _ _ h => (by cases h)⟩ k cs us h hb hc hr
 | clo q r _ => intro k cs us e g c h hb hh hcs hus hc hr; exact leaf (.clo q r) ⟨fun _ _ h => (by cases h), fun _ _ h => (by cases h)⟩ k cs us h hb hc hr
 | osl el r _ =>
  intro k cs us e g c h hb hh hcs hus hc hr
  simp only [lendK] at hr
  cases cs with
  | nil => simp [Prog.run] at hr
  | cons d l =>
   obtain ⟨hchk, hr⟩ := chk_run hr
   simp only [Bool.and_eq_true, Nat.blt_eq] at hchk
   obtain ⟨hdl, hk, hpl, hbx⟩ := hchk
   simp only [Prog.run] at hr
   split at hr
   ·rename_i el' r' xs hv ver' hK
    split at hr
    ·rename_i y hy
     simp only [Prog.run] at hr
     have hrow := as_row' hy
     rw [hrow hv ver'] at hK
     cases us with
     | nil => exact hc.elim
     | cons u us2 =>
      have hlat : (e (.box i)).lnkAt k = true := lnkAt_iff.2 ⟨hk, B, cs0, ver, hb, cellLnk_get.2 ⟨d, by simpa using hcs 0 d rfl, hdl⟩⟩
      have hcell := h.lnks i k hlat (by rw [hK]; rfl)
      have hu : u = (g.bx (lk i k)).h := by
       have hvk : vs[k]? = some u := by simpa using hus 0 u rfl
       rw [cell_of_heap hh, hvk] at hcell
       injection hcell
      obtain ⟨h0, hrow0, hq⟩ := h.leave hK
      obtain ⟨g1, f1, f2, h1, hrow1, hkeep⟩ := h0.relabelRow (.arg (lk p k)) hq hrow0
      refine ⟨y, [d], l, [u], us2, _, g1, rfl, rfl, rfl, rfl, hc.2, hr, h1, f1, f2, ?_, ?_, ?_, ?_⟩
      ·have : ¬ i = lk i k := fun hh => lk_ne i k hh.symm
       simp [Env.set, this, hb]
      ·have hc1 := hc.1
       obtain ⟨t, x, tip⟩ := d
       cases t <;> simp [DV.isLnk] at hdl
       exact hc1
      ·intro j e2 r2 y2 tip hd
       cases j with
       | zero =>
        simp only [Ty.split, List.getElem?_cons_zero, Option.some.injEq] at hd
        injection hd with q1 q2 _
        injection q1 with q1 q3
        subst q1; subst q3
        have q2 := eq_of_heq q2
        subst q2
        exact ⟨hk, hpl, u, rfl, by rw [hu]; exact hrow1⟩
       | succ j => simp [Ty.split] at hd
      ·intro b x hx hbx'
       exact hkeep b x (fun hh => by have := hx _ hh; have := lk_ge i k; omega) hbx'
    ·simp [Prog.run] at hr
   ·simp [Prog.run] at hr
 | pair ta tb iha ihb =>
  intro k cs us e g c h hb hh hcs hus hc hr
  simp only [lendK] at hr
  obtain ⟨x, pre, l, us1, us2, e1, g1, q1, q2, q3, q4, q5, q6, q7, q8, q9, q10, q11, q12, q13⟩ := iha k cs us h hb hh hcs hus hc hr
  obtain ⟨y, pre', l', us1', us2', e2, g2, p1, p2, p3, p4, p5, p6, p7, p8, p9, p10, p11, p12, p13⟩ := ihb (k + ta.sz) l us2 q7 q10 (by rw [q9]; exact hh)
   (fun j d hd => by rw [Nat.add_assoc]; refine hcs _ _ ?_; rw [q1, List.getElem?_append_right (by omega), q3, Nat.add_sub_cancel_left]; exact hd)
   (fun j u hu => by rw [Nat.add_assoc]; refine hus _ _ ?_; rw [q2, List.getElem?_append_right (by omega), q4, Nat.add_sub_cancel_left]; exact hu) (by rw [q8]; exact q5) q6
  refine ⟨(x, y), pre ++ pre', l', us1 ++ us1', us2', e2, g2, by rw [q1, p1, List.append_assoc], by rw [q2, p2, List.append_assoc], by simp [Ty.sz, q3, p3], by simp [Ty.sz, q4, p4], by rw [← q8]; exact p5, p6, p7, p8.trans q8, p9.trans q9, p10, ⟨us1, us1', rfl, q11, by rw [← q8]; exact p11⟩, ?_, fun b z hz hbz => p13 b z hz (q13 b z hz hbz)⟩
  intro j e2' r2 y2 tip hd
  have hla : (ta.split x).length = ta.sz := by rw [(Cells.split _ _ _ q11).len, q4]
  simp only [Ty.split] at hd
  rcases Nat.lt_or_ge j ta.sz with hlt | hge
  ·rw [List.getElem?_append_left (by omega)] at hd
   obtain ⟨r1, r3, u, r4, r5⟩ := q12 j e2' r2 y2 tip hd
   refine ⟨r1, r3, u, by rw [List.getElem?_append_left (by omega)]; exact r4, ?_⟩
   have r6 := r5.keep' (own' := g2.own) (fun b hbb => p13 b _ (fun m hm => by cases hm) hbb)
   rw [p8]; exact r6
  ·rw [List.getElem?_append_right (by omega), hla] at hd
   obtain ⟨r1, r3, u, r4, r5⟩ := p12 (j - ta.sz) e2' r2 y2 tip hd
   rw [show k + ta.sz + (j - ta.sz) = k + j by omega] at r1 r5
   exact ⟨r1, r3, u, by rw [List.getElem?_append_right (by omega), q4]; exact r4, r5⟩
theorem backK_sound {bxs : List Nat} {i p : Nat} {e' : Env} {pr : Prog} : ∀ (ds : List DV) (us : List Value) (k : Nat) {e : Env} {g : Gh}, St w0 T f0 n e a W g → (∀ j, (e (.box i)).lnkAt j = false) → ds.length = us.length →
  (∀ (j : Nat) e2 r2 (y2 : List r2.D) tip, ds[j]? = some ⟨.osl e2 r2, y2, tip⟩ → ∃ u, us[j]? = some u ∧ RowAt g.fix g.own W (.arg (lk p (k + j))) u e2 r2 y2) → (backK bxs i ds k pr).run e some = some e' →
  ∃ e1 g1, pr.run e1 some = some e' ∧ St w0 T f0 n e1 a W g1 ∧ g1.fix = g.fix ∧ (∀ m, (∀ j, k ≤ j → m ≠ lk i j) → g1.bx m = g.bx m ∧ e1 (.box m) = e (.box m)) ∧ (∀ t, e1 (.slot t) = e (.slot t)) ∧
   (∀ (j : Nat) u, cellLnk (lnkCells ds) j = true → us[j]? = some u → (e1 (.box (lk i (k + j)))).there = true → (g1.bx (lk i (k + j))).h = u) ∧ ∀ b x, (∀ j, j < 1000 → x ≠ .arg (lk p j)) → g.own b = some x → g1.own b = some x
 | [], us, k, e, g, h, hi, hl, hs, hr => ⟨e, g, hr, h, rfl, fun _ _ => ⟨rfl, rfl⟩, fun _ => rfl, fun j u hj => by simp [lnkCells, cellLnk] at hj, fun _ _ _ h => h⟩
 | d :: ds, [], k, e, g, h, hi, hl, hs, hr => by simp at hl
 | d :: ds, u :: us, k, e, g, h, hi, hl, hs, hr => by
  have hl' : ds.length = us.length := by simpa using hl
  -- what is left when this cell's row is at its place
  have fin : ∀ {e2 : Env} {g2 : Gh}, St w0 T f0 n e2 a W g2 → g2.fix = g.fix → (∀ m, m ≠ lk i k → g2.bx m = g.bx m ∧ e2 (.box m) = e (.box m)) → (∀ t, e2 (.slot t) = e (.slot t)) → (∀ b x, x ≠ .arg (lk p k) → g.own b = some x → g2.own b = some x) →
    (cellLnk (lnkCells (d :: ds)) 0 = true → (e2 (.box (lk i k))).there = true → (g2.bx (lk i k)).h = u) → (k < 1000 ∨ (∀ b x, g.own b = some x → g2.own b = some x)) → (backK bxs i ds (k + 1) pr).run e2 some = some e' →
    ∃ e1 g1, pr.run e1 some = some e' ∧ St w0 T f0 n e1 a W g1 ∧ g1.fix = g.fix ∧ (∀ m, (∀ j, k ≤ j → m ≠ lk i j) → g1.bx m = g.bx m ∧ e1 (.box m) = e (.box m)) ∧ (∀ t, e1 (.slot t) = e (.slot t)) ∧
     (∀ (j : Nat) u', cellLnk (lnkCells (d :: ds)) j = true → (u :: us)[j]? = some u' → (e1 (.box (lk i (k + j)))).there = true → (g1.bx (lk i (k + j))).h = u') ∧ ∀ b x, (∀ j, j < 1000 → x ≠ .arg (lk p j)) → g.own b = some x → g1.own b = some x := by
   intro e2 g2 h2 hf hm hsl hown hfact hk hr2
   obtain ⟨e1, g1, r1, r2, r3, r4, r5, r6, r7⟩ := backK_sound ds us (k + 1) h2 (fun j => by rw [(hm i (fun hh => lk_ne i k hh.symm)).2]; exact hi j) hl' (fun j e3 r3 y3 tip hd => by
    obtain ⟨u', h1, h2⟩ := hs (j + 1) e3 r3 y3 tip (by simpa using hd)
    rw [show k + (j + 1) = k + 1 + j by omega] at h2
    exact ⟨u', by simpa using h1, by rw [hf]; exact h2.keep' (own' := g2.own) fun b hb => hown b (.arg (lk p (k + 1 + j))) (fun hh => by injection hh with hh; unfold lk at hh; omega) hb⟩) hr2
   refine ⟨e1, g1, r1, r2, r3.trans hf, fun m hmm => ?_, fun t => (r5 t).trans (hsl t), fun j u' hj hu' ht => ?_, fun b x hx hb => ?_⟩
   ·obtain ⟨s1, s2⟩ := r4 m (fun j hj => hmm j (by omega))
    obtain ⟨s3, s4⟩ := hm m (hmm k (Nat.le_refl _))
    exact ⟨s1.trans s3, s2.trans s4⟩
   ·cases j with
    | zero =>
     injection hu' with hu'
     subst hu'
     obtain ⟨s1, s2⟩ := r4 (lk i k) (fun j hj hh => by unfold lk at hh; omega)
     simp only [Nat.add_zero] at ht ⊢
     rw [s1]
     rw [s2] at ht
     exact hfact hj ht
    | succ j =>
     rw [show k + (j + 1) = k + 1 + j by omega] at ht ⊢
     exact r6 j u' (by simpa [lnkCells, cellLnk] using hj) (by simpa using hu') ht
   ·rcases hk with hk | hk
    ·exact r7 b x hx (hown b x (hx k hk) hb)
    ·exact r7 b x hx (hk b x hb)
  have plain : (∀ e2 r2 (y2 : List r2.D) tip, d ≠ ⟨.osl e2 r2, y2, tip⟩) → d.t ≠ .any → (backK bxs i ds (k + 1) pr).run e some = some e' → _ := fun hne1 hne2 hr => fin h rfl (fun _ _ => ⟨rfl, rfl⟩) (fun _ => rfl) (fun _ _ _ h => h) (fun hc => by
   obtain ⟨d', hd', hc⟩ := lnkCells_get hc
   injection hd' with hd'
   subst hd'
   rcases hc with hc | ⟨e2, r2, hc⟩
   ·exact absurd hc hne2
   ·obtain ⟨t, x, tip⟩ := d
    simp only at hc
    subst hc
    exact absurd rfl (hne1 e2 r2 x tip)) (.inr fun _ _ h => h) hr
  obtain ⟨t, x, tip⟩ := d
  cases t with
  | osl el r =>
   simp only [backK, Prog.run] at hr
   split at hr
   ·rename_i hv ver hK
    obtain ⟨hchk, hr⟩ := chk_run hr
    simp only [Bool.and_eq_true, Nat.blt_eq] at hchk
    obtain ⟨hk, hpl, hbx⟩ := hchk
    obtain ⟨u', hu', hrow⟩ := hs 0 el r x tip rfl
    injection hu' with hu'
    subst hu'
    rw [Nat.add_zero] at hrow
    have hpr : (placeRow0 (lk i k) el r x fun _ => backK bxs i ds (k + 1) pr).run e some = some e' := by
     simp only [placeRow0, Prog.run, hK]; exact hr
    have hfree : Free e (.arg (lk p k)) := ⟨fun t h => (by cases h), fun i' T cs v _ => ⟨by simp, fun j d h => by cases h⟩, fun i' _ => by simp⟩
    obtain ⟨hv2, ver2, g1, q1, q2, q3, q4, q5, q6⟩ := placeRowG_sound h (.inr (lk_ge i k)) hfree hrow (fun _ => undef) (fun _ _ => .plain hpl) (fun i' k' hk' hl => by
     obtain ⟨hk2, -⟩ := lnkAt_iff.1 hl
     obtain ⟨rfl, rfl⟩ := lk_inj hk2 hk hk'
     rw [hi k'] at hl; cases hl) hpr
    exact fin q2 q3 (fun m hm => ⟨q5 m hm, by simp [Env.set, hm]⟩) (fun t => by simp [Env.set]) (fun b x hx hb => q6 b x hx hb) (fun _ _ => q4) (.inl hk) q1
   ·simp [Prog.run] at hr
  | any =>
   simp only [backK, Prog.run] at hr
   cases ht : (e (.box (lk i k))).there <;> simp only [ht, cond_true, cond_false] at hr
   ·exact fin h rfl (fun _ _ => ⟨rfl, rfl⟩) (fun _ => rfl) (fun _ _ _ h => h) (fun _ hh => by rw [ht] at hh; cases hh) (.inr fun _ _ h => h) hr
   ·simp [Prog.run] at hr
  | unit => exact plain (fun _ _ _ _ h => by cases h) (by simp) hr
  | int _ => exact plain (fun _ _ _ _ h => by cases h) (by simp) hr
  | bool => exact plain (fun _ _ _ _ h => by cases h) (by simp) hr
  | str => exact plain (fun _ _ _ _ h => by cases h) (by simp) hr
  | sl _ _ => exact plain (fun _ _ _ _ h => by cases h) (by simp) hr
  | pair _ _ => exact plain (fun _ _ _ _ h => by cases h) (by simp) hr
  | clo _ _ => exact plain (fun _ _ _ _ h => by cases h) (by simp) hr
end
end Go.PM
