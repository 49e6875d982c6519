/- PM: operations on rows that may be written, sound. -/
import Derived.Test.YtibkgmpfncacpaaPMHole
import Derived.Laws.MakeOwn
import Derived.Lib.AppendZeros
namespace Go.PM
open Go
section
variable {P : Program} {G : Ctx} {w0 : World} {T : Nat → Prop} {f0 : F0} {n : Nat} {e e' : Env} {a : Act} {W : World} {g : Gh} {o : Oper} {K : Act → World → Prop} {Q : Exit → Act → World → Prop}
theorem rowHead_row {pv : PV} {el : TypeId} {r : Ty} {xs : List r.D} {hv ver : Nat} (h : rowHead pv = .row el r xs hv ver) : ∃ ys ver0, pv = .row el r ys hv ver0 := by
 cases pv <;> simp [rowHead] at h
 obtain ⟨h1, h2, h3, h4, h5⟩ := h
 subst h1; subst h2; subst h4
 exact ⟨_, _, rfl⟩
theorem thawK_sound {i lo : Nat} {B : TypeId} {cs0 : List DV} {ver : Nat} {vs : Array Value} : ∀ (ks : List Nat) (cs : List DV) {e : Env} {g : Gh} {c : List DV → Prog}, St w0 T f0 n e a W g → e (.box i) = .box B cs0 ver → W.heap[(g.bx i).b]? = some (.cells vs B (0, 0)) → Cells g.fix W cs vs.toList →
  (∀ (j : Nat) d, cs[j]? = some d → d.tip = true → cs0[j]? = some d) → (∀ k, cellLnk cs k = true → cellLnk cs0 k = true) → (thawK G i lo ks cs c).run e some = some e' →
  ∃ cs' e1 g1, (c cs').run e1 some = some e' ∧ St w0 T f0 n e1 a W g1 ∧ g1.bx = g.bx ∧ e1 (.box i) = .box B cs0 ver ∧ Cells g1.fix W cs' vs.toList ∧ (∀ (j : Nat) d, cs'[j]? = some d → d.tip = true → cs0[j]? = some d) ∧ ∀ k, cellLnk cs' k = true → cellLnk cs0 k = true
 | [], cs, e, g, c, h, hb, hh, hc, ht, hl, hr => ⟨cs, e, g, hr, h, rfl, hb, hc, ht, hl⟩
 | k :: ks, cs, e, g, c, h, hb, hh, hc, ht, hl, hr => by
  simp only [thawK, Prog.run] at hr
  split at hr
  ·rename_i el r xs hv ver' hK
   obtain ⟨hchk, hr⟩ := chk_run hr
   simp only [Bool.and_eq_true, Nat.blt_eq] at hchk
   obtain ⟨hpl, -, hcl, hlt⟩ := hchk
   simp only [Prog.run] at hr
   have hcell := link_cell h hb (hl _ hcl) hlt (by rw [hK]; rfl)
   rw [cell_of_heap hh] at hcell
   obtain ⟨g', k1, k2, k3, k4⟩ := h.thawRow hK
   have hki : ¬ i = lk i (lo + k) := fun hh => lk_ne i _ hh.symm
   have hlen : lo + k < cs.length := cellLnk_lt hcl
   have hc' : Cells g'.fix W (putCells cs (lo + k) [⟨.sl el r, xs, false⟩]) vs.toList := by
    rw [putCells_one hlen]
    refine Cells.of_get (by rw [List.length_set]; exact hc.len) fun j dv w hj hw => ?_
    rw [List.getElem?_set] at hj
    split at hj
    ·rename_i he
     subst he
     injection hj with hj
     subst hj
     have hw' : vs[lo + k]? = some w := by simpa using hw
     rw [hcell] at hw'
     injection hw' with hw'
     subst hw'
     exact k3
    ·obtain ⟨w', hw', hr'⟩ := hc.get j dv hj
     rw [hw'] at hw
     injection hw with hw
     subst hw
     exact Rep.mono (fun b o hf => ⟨k4 b o hf, fun _ h => h⟩) _ _ _ hr'
   obtain ⟨cs', e1, g1, r1, r2, r3, r4, r5, r6, r7⟩ := thawK_sound (B := B) (cs0 := cs0) (ver := ver) ks (putCells cs (lo + k) [⟨.sl el r, xs, false⟩]) k2 (by simp [Env.set, hki, hb]) (by rw [k1]; exact hh) hc' (fun j d hj ht' => by
    rw [putCells_one hlen, List.getElem?_set] at hj
    split at hj
    ·rename_i he
     subst he
     injection hj with hj
     subst hj; cases ht'
    ·exact ht j d hj ht') (fun k' hk' => by
    rcases putCells_lnk (ds := [⟨.sl el r, xs, false⟩]) (by simp; omega) hk' with ⟨q, -⟩ | ⟨-, q⟩
    ·exact hl k' q
    ·cases hq : k' - (lo + k) <;> rw [hq] at q <;> simp [cellLnk, DV.isLnk] at q) hr
   exact ⟨cs', e1, g1, r1, r2, r3.trans k1, r4, r5, r6, r7⟩
  ·rename_i el r xs hv ver' ii off e2 r2 ys hK
   split at hr
   ·rename_i z hz
    obtain ⟨hchk, hr⟩ := chk_run hr
    simp only [Bool.and_eq_true, Nat.blt_eq] at hchk
    obtain ⟨hpl, -, hcl, hlt⟩ := hchk
    simp only [Prog.run] at hr
    have hcell := link_cell h hb (hl _ hcl) hlt (by rw [hK]; rfl)
    rw [cell_of_heap hh] at hcell
    obtain ⟨g', k1, k2, k3, k4⟩ := h.thawHole hK hz
    have hki : ¬ i = lk i (lo + k) := fun hh => lk_ne i _ hh.symm
    have hlen : lo + k < cs.length := cellLnk_lt hcl
    have hc' : Cells g'.fix W (putCells cs (lo + k) [⟨.sl el r, xs.set ii z, false⟩]) vs.toList := by
     rw [putCells_one hlen]
     refine Cells.of_get (by rw [List.length_set]; exact hc.len) fun j dv w hj hw => ?_
     rw [List.getElem?_set] at hj
     split at hj
     ·rename_i he
      subst he
      injection hj with hj
      subst hj
      have hw' : vs[lo + k]? = some w := by simpa using hw
      rw [hcell] at hw'
      injection hw' with hw'
      subst hw'
      exact k3
     ·obtain ⟨w', hw', hr'⟩ := hc.get j dv hj
      rw [hw'] at hw
      injection hw with hw
      subst hw
      exact Rep.mono (fun b o hf => ⟨k4 b o hf, fun _ h => h⟩) _ _ _ hr'
    obtain ⟨cs', e1, g1, r1, r2, r3, r4, r5, r6, r7⟩ := thawK_sound (B := B) (cs0 := cs0) (ver := ver) ks (putCells cs (lo + k) [⟨.sl el r, xs.set ii z, false⟩]) k2 (by simp [Env.set, hki, hb]) (by rw [k1]; exact hh) hc' (fun j d hj ht' => by
     rw [putCells_one hlen, List.getElem?_set] at hj
     split at hj
     ·rename_i he
      subst he
      injection hj with hj
      subst hj; cases ht'
     ·exact ht j d hj ht') (fun k' hk' => by
     rcases putCells_lnk (ds := [⟨.sl el r, xs.set ii z, false⟩]) (by simp; omega) hk' with ⟨q, -⟩ | ⟨-, q⟩
     ·exact hl k' q
     ·cases hq : k' - (lo + k) <;> rw [hq] at q <;> simp [cellLnk, DV.isLnk] at q) hr
    exact ⟨cs', e1, g1, r1, r2, r3.trans k1, r4, r5, r6, r7⟩
   ·simp [Prog.run] at hr
  ·simp [Prog.run] at hr
theorem sound_thawLoad {i lo : Nat} {B : TypeId} {cs : List DV} {ver : Nat} {ks : List Nat} {k : Prog} (h : St w0 T f0 n e a W g) (hb : e (.box i) = .box B cs ver) (hr : (thawK G i lo ks cs fun cs' => .set (.box i) (.box B cs' (ver + 1)) k).run e some = some e') :
  ∃ e1 g1, k.run e1 some = some e' ∧ St w0 T f0 n e1 a W g1 := by
 have hbr := h.boxes i
 rw [hb] at hbr
 obtain ⟨vs, k1, k2, k3, k4, k5⟩ := hbr
 obtain ⟨cs', e1, g1, r1, r2, r3, r4, r5, r6, r7⟩ := thawK_sound ks cs h hb k1 k4 (fun _ _ h _ => h) (fun _ h => h) hr
 simp only [Prog.run] at r1
 have hbr1 := r2.boxes i
 rw [r4] at hbr1
 obtain ⟨vs', q1, q2, q3, q4, q5⟩ := hbr1
 rw [r3, k1] at q1
 injection q1 with q1
 injection q1 with q1 _ _
 subst q1
 exact ⟨_, g1, r1, r2.setBox' (pv := .box B cs' (ver + 1)) ⟨vs, by rw [r3]; exact k1, q2, q3, r5, fun j d hj ht => q5 j d (r6 j d hj ht) ht⟩ (.plain (fun _ => rfl) (by rw [r4]; rfl)) ⟨fun k hk => by
  rw [r4]
  simp only [PV.lnkAt, Bool.and_eq_true] at hk ⊢
  exact ⟨hk.1, r7 k hk.2⟩, fun hh => by simp [PV.there] at hh⟩⟩
theorem Cells.one {fix : Nat → Nat → Prop} {W : World} : ∀ {ds : List DV} {us : List Value}, Cells fix W ds us → ∀ u ∈ us, u.oneCell' = true
 | [], [], _, u, h => by cases h
 | d :: ds, v :: us, hc, u, h => by
  rcases List.mem_cons.1 h with h | h
  ·subst h; exact hc.1.one _ _ _ _ (by simp)
  ·exact Cells.one hc.2 u h
theorem load_agg {t : TypeId} {ty : Ty} (ht : TyOk P t ty) {W : World} {ad : Addr} {lo : Nat} {vs : List Value} (hs : ad.spot = none) (ha : ty.isAgg = true)
  (hcell : ∀ (j : Nat) u, vs[lo + j]? = some u → j < ty.sz → W.cell? ⟨ad.block, ad.off + j, none⟩ = some u) (hl : lo + ty.sz ≤ vs.length) :
  (Instr.loadAt t (.pointer (some ad))).run P W = .ok (.agg ((vs.drop lo).take ty.sz).toArray) W := by
 have hrow := run_loadCells_list (P := P) W ad ((vs.drop lo).take ty.sz) (fun j u hu => by
   rw [List.getElem?_take] at hu
   split at hu
   ·rename_i hj
    rw [List.getElem?_drop] at hu
    rw [add_none hs]
    exact hcell j u hu hj
   ·cases hu)
 have hn : ((vs.drop lo).take ty.sz).length = ty.sz := by rw [List.length_take, List.length_drop]; omega
 rw [hn] at hrow
 simp only [Instr.loadAt, Instr.sureAddr, Sem.run_bind, Sem.run_pure, Result.andThen_ok, loadVar, ht.run_isAgg, ha, if_true, ht.run_size, hrow]
theorem putH_sound {i lo k : Nat} {ty : Ty} {B el : TypeId} {r : Ty} {xs : List r.D} {cs ds : List DV} {ver : Nat} {q : Lab} {us : Array Value} {u : Value} (h : St w0 T f0 n e a W g) (hcu : Cells g.fix W ds us.toList) (hnu : NilTips ds us.toList) (hu : us[k]? = some u)
  (hrow : RowAt g.fix g.own W q u el r xs) (hqi : q ≠ .box i) (hfq : ∀ E : Env, (∀ m, m ≠ i → m ≠ lk i (lo + k) → E (.box m) = e (.box m)) → Free E q) (hb : e (.box i) = .box B cs ver) (hr : (putH G ty i lo k ds B cs ver el r xs).run e some = some e') :
  us.size = ty.sz ∧ ∃ W' g', (storeCells ⟨(g.bx i).b, lo, none⟩ us.toList).run P W = .ok () W' ∧ St w0 T f0 n e' a W' g' := by
 unfold putH at hr
 obtain ⟨hchk, hr2⟩ := chk_run hr
 clear hr
 simp only [Bool.and_eq_true, Nat.blt_eq] at hchk
 obtain ⟨hpl, -, hlo, -, hin, hlen, hfit⟩ := hchk
 have hlen := Nat.eq_of_beq_eq_true hlen
 have hfit := Nat.le_of_ble_eq_true hfit
 have hki : ¬ i = lk i (lo + k) := fun hh => lk_ne i _ hh.symm
 have husz : us.toList.length = ty.sz := by rw [← hcu.len, hlen]
 refine ⟨by simpa using husz, ?_⟩
 -- what is left when the place is free
 have fin : ∀ {e2 : Env}, St w0 T f0 n e2 a W g → e2 (.box i) = .box B cs ver → (∀ m, m ≠ i → m ≠ lk i (lo + k) → e2 (.box m) = e (.box m)) → (e2 (.box (lk i (lo + k)))).there = false →
   (placeRow0 (lk i (lo + k)) el r xs fun _ => .done).run (e2.set (.box i) (.box B (putCells cs lo ds) (ver + 1))) some = some e' →
   ∃ W' g', (storeCells ⟨(g.bx i).b, lo, none⟩ us.toList).run P W = .ok () W' ∧ St w0 T f0 n e' a W' g' := by
  intro e2 h2' hb2 hsame hnt hr
  obtain ⟨W', hrun, h3⟩ := h2'.write (P := P) hb2 (lo := lo) hcu (by rw [hlen]; exact hfit) (fun jj d hj ht => by
   obtain ⟨m1, m2⟩ := hnu jj d hj ht
   exact ⟨_, m2, NilTips.tip m1⟩) (Cells.one hcu) (fun kk hkk => by
   have := lnkIn_spec hin kk hkk
   rw [Nat.zero_add] at this
   have := List.mem_singleton.1 this
   subst this
   exact hnt)
  have hoth : ∀ b, b ≠ (g.bx i).b → W'.heap[b]? = W.heap[b]? := by
   have hbr := h2'.boxes i
   rw [hb2] at hbr
   obtain ⟨vs, k1, -, -, k4, -⟩ := hbr
   have hrun' := run_storeCells_at P (g.bx i).b lo B us.toList 0 vs W k1 (by have := k4.len; simp only [Array.length_toList] at this; omega) (Cells.one hcu)
   simp only [Nat.add_zero] at hrun'
   rw [hrun'] at hrun
   injection hrun with _ hrun
   subst hrun
   exact fun b hb => setRow_other W (g.bx i).b b _ hb
  have hcell : W'.cell? ⟨(g.bx i).b, lo + k, none⟩ = some u := by
   have hbr := h2'.boxes i
   rw [hb2] at hbr
   obtain ⟨vs, k1, -, -, k4, -⟩ := hbr
   have hvs : lo + us.toList.length ≤ vs.size := by have := k4.len; simp only [Array.length_toList] at this; omega
   have hrun' := run_storeCells_at P (g.bx i).b lo B us.toList 0 vs W k1 (by omega) (Cells.one hcu)
   simp only [Nat.add_zero] at hrun'
   rw [hrun'] at hrun
   injection hrun with _ hrun
   subst hrun
   rw [cell_of_heap (setRow_heap W (g.bx i).b vs _ B (0, 0) k1)]
   have htl : (vs.toList.take lo).length = lo := by rw [List.length_take]; simp only [Array.length_toList]; simp only [Array.length_toList] at hvs; omega
   have hul : k < us.toList.length := by have := (Array.getElem?_eq_some_iff.1 hu).1; simpa using this
   rw [List.getElem?_toArray, List.append_assoc, List.getElem?_append_right (by omega), htl, List.getElem?_append_left (by omega), Nat.add_sub_cancel_left]
   simpa using hu
  have hmv : RowAt g.fix g.own W' q u el r xs := by
   refine hrow.move (X := fun q => q = .box i) (g' := g) ⟨fun b oo hf => ⟨hf, fun w hw => ?_⟩, fun b q hbq hne => ⟨hbq, hoth b fun hh => ?_, fun _ h => h⟩⟩ hqi
   ·have hbr := h.boxes i
    rw [hb] at hbr
    obtain ⟨vs, -, -, k3, -⟩ := hbr
    have : b ≠ (g.bx i).b := fun hh => by subst hh; exact k3 oo hf
    rw [World.cell?_of_block (w := W) (hoth b this)]; exact hw
   ·have hbr := h.boxes i
    rw [hb] at hbr
    obtain ⟨vs, -, k2, -⟩ := hbr
    rw [hh, k2] at hbq
    injection hbq with hbq
    exact hne hbq.symm
  have hfree : Free (e2.set (.box i) (.box B (putCells cs lo ds) (ver + 1))) q := hfq _ fun m hm hm2 => by rw [← hsame m hm hm2]; simp [Env.set, hm]
  obtain ⟨hv2, ver2, g4, q1, q2, -⟩ := placeRowG_sound h3 (.inr (lk_ge i (lo + k))) hfree hmv (fun _ => undef) (fun _ _ => .plain hpl) (fun i' k' hk' hl' => by
   obtain ⟨hk2, -⟩ := lnkAt_iff.1 hl'
   obtain ⟨rfl, rfl⟩ := lk_inj hk2 hlo hk'
   exact hcell) hr
  simp only [Prog.run, Option.some.injEq] at q1
  rw [q1] at q2
  exact ⟨W', g4, hrun, q2⟩
 simp only [Prog.run] at hr2
 split at hr2
 ·rename_i e0 r0 xs0 h2 v2 hKb
  simp only [Prog.run] at hr2
  obtain ⟨h2', -, -⟩ := h.leave hKb
  exact fin h2' (by simp [Env.set, hki, hb]) (fun m hm hm2 => by simp [Env.set, hm2]) (by simp [Env.set, PV.there]) hr2
 ·rename_i hKb
  simp only [Prog.run] at hr2
  exact fin h hb (fun _ _ _ => rfl) (by rw [hKb]; rfl) hr2
 ·rename_i h2 v2 hKb
  simp only [Prog.run] at hr2
  exact fin h hb (fun _ _ _ => rfl) (by rw [hKb]; rfl) hr2
 ·simp [Prog.run] at hr2
theorem sound_storeF {t : TypeId} {x y : Operand} {i lo k j hv : Nat} {ty : Ty} {B : TypeId} {cs ds : List DV} {ver : Nat} (hG : CtxTys P G) (ho : o.op = .store t x y) (hty : look t G.ty = some ty) (h : St w0 T f0 G.n e a W g) (hdat : Dat g W (.bptr i lo) (a.eval x)) (hdat2 : Dat g W (.aggh ds [(k, (j, hv))]) (a.eval y)) (hp : PtrOk e g (.aggh ds [(k, (j, hv))]) (a.eval y))
  (hb : e (.box i) = .box B cs ver) (hdst : o.dst = none) (hr : (storeF G ty i lo k j hv ds B cs ver).run e some = some e') (hK : ∀ a' W' g', St w0 T f0 G.n e' a' W' g' → K a' W') : o.wp P a W K Q := by
 unfold storeF at hr
 obtain ⟨el, r, xs, ver1, hbs, hr2⟩ := seeRow_run hr
 clear hr
 obtain ⟨hchk, hr⟩ := chk_run hr2
 clear hr2
 simp only [Bool.and_eq_true, Bool.not_eq_true'] at hchk
 have hjk : ¬ j = lk i (lo + k) := fun hh => by rw [hh, Nat.beq_refl] at hchk; cases hchk.2
 simp only [Prog.run] at hr
 have htk := hG _ _ hty
 have hv' : a.eval x = .pointer (some ⟨(g.bx i).b, lo, none⟩) := hdat
 obtain ⟨us, huv, hcu, hnu⟩ := hdat2
 obtain ⟨us', huv', hh⟩ := hp
 have huv2 := huv.symm.trans huv'
 injection huv2 with huv2
 subst huv2
 obtain ⟨u, hu, hok⟩ := hh _ List.mem_cons_self
 simp only at hu hok
 have hveq := hok.row hbs
 have hbrj := h.boxes j
 rw [hbs] at hbrj
 have hrow : RowAt g.fix g.own W (.box j) u el r xs := by rw [hveq]; exact hbrj.1
 obtain ⟨h1, -, hq⟩ := h.leave hbs
 have hij : ¬ i = j := fun hh => by subst hh; rw [hb] at hbs; cases hbs
 have hji : ¬ j = i := fun hh => hij hh.symm
 have hb1 : (e.set (.box j) (.gone hv (ver1 + 1))) (.box i) = .box B cs ver := by simp [Env.set, hij, hb]
 generalize hE : e.set (.box j) (.gone hv (ver1 + 1)) = E at h1 hq hr hb1
 obtain ⟨hsz, W', g', hrun, hfin⟩ := putH_sound (P := P) h1 hcu hnu hu hrow (fun hh => by injection hh with hh; exact hji hh) (fun E' hE' => by
  have hbx := hE' j hji hjk
  refine ⟨fun t ht => (by cases ht), fun i' T' cs' v' hbx' => ⟨fun heq => ?_, fun jj d hj => (by cases hj)⟩, fun i' hbx' => ⟨fun heq => ?_, fun kk hk => (by cases hk)⟩⟩
  ·injection heq with heq
   subst heq
   exact (hq.2.1 j T' cs' v' (hbx.symm.trans hbx')).1 rfl
  ·injection heq with heq
   subst heq
   exact (hq.2.2 j (by rw [← hbx]; exact hbx')).1 rfl) hb1 hr
 refine wp_skip' (W' := W') ?_ ?_
 ·simp [execOp, ho, hv', huv, Instr.storeAt, Instr.sureAddr, storeVar, htk.run_size, hsz, Value.cells, hrun]
 ·rw [hdst]; exact hK _ _ _ hfin
theorem sound_storeV {t : TypeId} {x y : Operand} {i lo j hv : Nat} {ty : Ty} {B : TypeId} {cs : List DV} {ver : Nat} (hG : CtxTys P G) (ho : o.op = .store t x y) (hty : look t G.ty = some ty) (h : St w0 T f0 G.n e a W g) (hdat : Dat g W (.bptr i lo) (a.eval x)) (hp : PtrOk e g (.hdr j hv) (a.eval y))
  (hb : e (.box i) = .box B cs ver) (hdst : o.dst = none) (hr : (storeF G ty i lo 0 j hv [lnkDV] B cs ver).run e some = some e') (hK : ∀ a' W' g', St w0 T f0 G.n e' a' W' g' → K a' W') : o.wp P a W K Q := by
 unfold storeF at hr
 obtain ⟨el, r, xs, ver1, hbs, hr2⟩ := seeRow_run hr
 clear hr
 obtain ⟨hchk, hr⟩ := chk_run hr2
 clear hr2
 simp only [Bool.and_eq_true, Bool.not_eq_true'] at hchk
 have hjk : ¬ j = lk i (lo + 0) := fun hh => by rw [hh, Nat.beq_refl] at hchk; cases hchk.2
 simp only [Prog.run] at hr
 have htk := hG _ _ hty
 have hv' : a.eval x = .pointer (some ⟨(g.bx i).b, lo, none⟩) := hdat
 obtain ⟨-, hrow⟩ := hdr_row h hp hbs
 have hone : (a.eval y).oneCell' = true ∧ (a.eval y).cells = #[a.eval y] := by
  obtain ⟨A, c', q1, -⟩ := hrow
  rw [q1]; exact ⟨rfl, rfl⟩
 have hcu : Cells g.fix W [lnkDV] (#[a.eval y] : Array Value).toList := ⟨⟨_, rfl, hone.1⟩, trivial⟩
 have hnu : NilTips [lnkDV] (#[a.eval y] : Array Value).toList := fun jj d hj ht => by
  cases jj <;> simp [lnkDV] at hj
  subst hj
  cases ht
 have hu : (#[a.eval y] : Array Value)[0]? = some (a.eval y) := rfl
 obtain ⟨h1, -, hq⟩ := h.leave hbs
 have hij : ¬ i = j := fun hh => by subst hh; rw [hb] at hbs; cases hbs
 have hji : ¬ j = i := fun hh => hij hh.symm
 have hb1 : (e.set (.box j) (.gone hv (ver1 + 1))) (.box i) = .box B cs ver := by simp [Env.set, hij, hb]
 generalize hE : e.set (.box j) (.gone hv (ver1 + 1)) = E at h1 hq hr hb1
 obtain ⟨hsz, W', g', hrun, hfin⟩ := putH_sound (P := P) h1 hcu hnu hu hrow (fun hh => by injection hh with hh; exact hji hh) (fun E' hE' => by
  have hbx := hE' j hji hjk
  refine ⟨fun t ht => (by cases ht), fun i' T' cs' v' hbx' => ⟨fun heq => ?_, fun jj d hj => (by cases hj)⟩, fun i' hbx' => ⟨fun heq => ?_, fun kk hk => (by cases hk)⟩⟩
  ·injection heq with heq
   subst heq
   exact (hq.2.1 j T' cs' v' (hbx.symm.trans hbx')).1 rfl
  ·injection heq with heq
   subst heq
   exact (hq.2.2 j (by rw [← hbx]; exact hbx')).1 rfl) hb1 hr
 refine wp_skip' (W' := W') ?_ ?_
 ·have hsz : 1 = ty.sz := by simpa using hsz
  have hrun : (storeCells ⟨(g.bx i).b, lo, none⟩ [a.eval y]).run P W = .ok () W' := hrun
  simp [execOp, ho, hv', Instr.storeAt, Instr.sureAddr, storeVar, htk.run_size, hone.2, ← hsz, hrun]
 ·rw [hdst]; exact hK _ _ _ hfin
theorem sound_storeN {t : TypeId} {x y : Operand} {i lo k : Nat} {ty : Ty} {B : TypeId} {cs ds : List DV} {ver : Nat} (hG : CtxTys P G) (ho : o.op = .store t x y) (hty : look t G.ty = some ty) (h : St w0 T f0 G.n e a W g) (hdat : Dat g W (.bptr i lo) (a.eval x)) (hdat2 : Dat g W (.aggh ds []) (a.eval y))
  (hb : e (.box i) = .box B cs ver) (hdst : o.dst = none) (hr : (storeN G ty i lo k ds B cs ver).run e some = some e') (hK : ∀ a' W' g', St w0 T f0 G.n e' a' W' g' → K a' W') : o.wp P a W K Q := by
 unfold storeN at hr
 split at hr
 ·rename_i el r xs hn
  rw [nth_at] at hn
  have htk := hG _ _ hty
  have hv' : a.eval x = .pointer (some ⟨(g.bx i).b, lo, none⟩) := hdat
  obtain ⟨us, huv, hcu, hnu⟩ := hdat2
  obtain ⟨-, hnil⟩ := hnu k _ hn rfl
  have hklt : k < ds.length := (List.getElem?_eq_some_iff.1 hn).1
  have hcu' : Cells g.fix W (putCells ds k [lnkDV]) us.toList := by
   rw [putCells_one hklt]
   refine Cells.of_get (by rw [List.length_set]; exact hcu.len) fun j dv w hj hw => ?_
   rw [List.getElem?_set] at hj
   split at hj
   ·rename_i he
    subst he
    injection hj with hj
    subst hj
    rw [hnil] at hw
    injection hw with hw
    subst hw
    exact ⟨_, rfl, by simp [Value.oneCell']⟩
   ·obtain ⟨w', hw', hr'⟩ := hcu.get j dv hj
    rw [hw'] at hw
    injection hw with hw
    subst hw
    exact hr'
  have hnu' : NilTips (putCells ds k [lnkDV]) us.toList := fun j d hj ht => by
   rw [putCells_one hklt, List.getElem?_set] at hj
   split at hj
   ·injection hj with hj
    subst hj; cases ht
   ·exact hnu j d hj ht
  obtain ⟨hsz, W', g', hrun, hfin⟩ := putH_sound (P := P) (q := .arg 0) h hcu' hnu' (by simpa using hnil) (RowAt.nil _ _ _ _ el r) (fun hh => by cases hh) (fun E _ => free_arg E 0) hb hr
  refine wp_skip' (W' := W') ?_ ?_
  ·simp [execOp, ho, hv', huv, Instr.storeAt, Instr.sureAddr, storeVar, htk.run_size, hsz, Value.cells, hrun]
  ·rw [hdst]; exact hK _ _ _ hfin
 ·simp [Prog.run] at hr
theorem sound_loadH {t : TypeId} {x : Operand} {i lo : Nat} {ks : List Nat} {ty : Ty} {B : TypeId} {cs : List DV} {ver : Nat} (hG : CtxTys P G) (ho : o.op = .load t x) (hty : look t G.ty = some ty) (hag : ty.isAgg = true) (h : St w0 T f0 G.n e a W g) (hd : dstOk G.n o.dst = true) (hdat : Dat g W (.bptr i lo) (a.eval x))
  (hb : e (.box i) = .box B cs ver) (hr : (loadH o.dst ty i lo ks cs).run e some = some e') (hK : ∀ a' W' g', St w0 T f0 G.n e' a' W' g' → K a' W') : o.wp P a W K Q := by
 unfold loadH at hr
 split at hr
 ·rename_i k
  obtain ⟨hchk, hr⟩ := chk_run hr
  simp only [Bool.and_eq_true, Nat.blt_eq] at hchk
  obtain ⟨hk1, hcl, hkz, hl⟩ := hchk
  have hl := Nat.le_of_ble_eq_true hl
  simp only [Prog.run] at hr
  split at hr
  ·rename_i el r xs hv ver' hK'
   have hv' : a.eval x = .pointer (some ⟨(g.bx i).b, lo, none⟩) := hdat
   have hcell := link_cell h hb hcl hk1 (by rw [hK']; rfl)
   have hbr := h.boxes i
   rw [hb] at hbr
   obtain ⟨vs, k1, k2, k3, k4, k5⟩ := hbr
   have hvl : vs.toList.length = cs.length := k4.len.symm
   have hload := load_agg (P := P) (hG _ _ hty) (ad := ⟨(g.bx i).b, lo, none⟩) (W := W) (lo := lo) (vs := vs.toList) rfl hag (fun j u hu _ => by
    show W.cell? ⟨(g.bx i).b, lo + j, none⟩ = some u
    rw [cell_of_heap k1]; simpa using hu) (by omega)
   rw [put_run hr] at hK
   refine wp_value (v := .agg ((vs.toList.drop lo).take ty.sz).toArray) (W' := W) (by simp only [execOp, ho, hv', Sem.run_bind, hload, Result.andThen_ok, Sem.run_pure]) (hK _ _ _ (h.putDst hd (fun d hd' => ⟨_, rfl, by simpa [cellsAt] using (k4.drop lo |>.take ty.sz).clear, NilTips.clear _ _⟩) ⟨_, rfl, fun x hx => ?_⟩))
   have hx := List.mem_singleton.1 hx
   subst hx
   refine ⟨(g.bx (lk i (lo + k))).h, ?_, ?_⟩
   ·rw [cell_of_heap k1] at hcell
    rw [List.getElem?_toArray, List.getElem?_take_of_lt hkz, List.getElem?_drop]
    simpa using hcell
   ·show HOk (e (.box (lk i (lo + k)))) _ hv _
    rw [hK']
    exact ⟨Nat.le_refl _, fun _ => rfl⟩
  ·simp [Prog.run] at hr
 ·simp [Prog.run] at hr
theorem sound_capNil {c : Call} {x : Operand} {t el : TypeId} {r : Ty} (hG : CtxTys P G) (hty : look t G.ty = some (.sl el r)) (ho : o.op = .call c) (hc : c.callee = .builtin .cap) (hx : c.args.toList = [x]) (htt : c.argTypes.toList = [t]) (h : St w0 T f0 G.n e a W g) (hd : dstOk G.n o.dst = true) (hv : a.eval x = .slice none 0 0)
  (hr : (put o.dst (.val ⟨.int .i64, (0 : Int), false⟩) .done).run e some = some e') (hK : ∀ a' W' g', St w0 T f0 G.n e' a' W' g' → K a' W') : o.wp P a W K Q := by
 rw [put_run hr] at hK
 refine wp_value (v := .int .i64 0) (W' := W) ?_ (hK _ _ _ (h.putDat hd ⟨rfl, rfl, fun hh => by cases hh⟩ rfl (not_ptr rfl _)))
 have hx2 : c.args.map a.eval = #[a.eval x] := by rw [args_one hx]; simp
 have hu := (hG _ _ hty).sl_und
 have hel : P.elem t = el := by simp [Program.elem, hu]
 have hu' : P.underlying t = some (.slice (P.elem t)) := by rw [hel]; exact hu
 have ht2 : c.argTypes = #[t] := by apply Array.ext'; simp [htt]
 simp [execOp, ho, resolve, hc, ht2, hx2, hv, invoke, builtin, run_cap_slice W t o.type none 0 0 hu', goInt]
theorem sound_sliceNil {t : TypeId} {x : Operand} {lo hi : Option Operand} {el : TypeId} {r : Ty} (hG : CtxTys P G) (hty : look t G.ty = some (.sl el r)) (ho : o.op = .slice t x lo hi none) (h : St w0 T f0 G.n e a W g) (hd : dstOk G.n o.dst = true) (hv : a.eval x = .slice none 0 0)
  (hr : (getOptInt lo 0 fun l => getOptInt hi 0 fun h => .chk (decide (l = 0) && decide (h = 0)) (put o.dst .nil .done)).run e some = some e') (hK : ∀ a' W' g', St w0 T f0 G.n e' a' W' g' → K a' W') : o.wp P a W K Q := by
 obtain ⟨l, hr1, hl⟩ := getOptInt_sound h hr
 obtain ⟨hh, hr2, hhi⟩ := getOptInt_sound h hr1
 obtain ⟨hc, hr3⟩ := chk_run hr2
 simp only [Bool.and_eq_true, decide_eq_true_eq] at hc
 obtain ⟨rfl, rfl⟩ := hc
 rw [put_run hr3] at hK
 refine wp_value (v := .slice none 0 0) (W' := W) ?_ (hK _ _ _ (h.putDat hd rfl rfl (not_ptr rfl _)))
 have htk := hG _ _ hty
 have hu := htk.sl_und
 have hel : P.elem t = el := by simp [Program.elem, hu]
 have hu' : P.underlying t = some (.slice (P.elem t)) := by rw [hel]; exact hu
 have hszr : (sizeOf (P.elem t)).run P W = .ok r.sz W := by rw [hel]; exact htk.sl_row.run_size W
 have hrun : (Instr.slice t (.slice none 0 0) (lo.map a.eval) (hi.map a.eval) none).run P W = .ok (sliced none 0 0 0 r.sz) W := by
  rcases hl with ⟨rfl, hl⟩ | ⟨y1, k1, rfl, hl⟩ <;> rcases hhi with ⟨rfl, hhi⟩ | ⟨y2, k2, rfl, hhi⟩
  ·show (Instr.slice t _ none none none).run P W = _
   rw [run_slice_all W t none 0 0 hu', hszr]; rfl
  ·show (Instr.slice t _ none (some (a.eval y2)) none).run P W = _
   rw [hhi, run_slice_h W t none 0 0 hu' k2 0 (by omega) (by omega), hszr]; simp
  ·show (Instr.slice t _ (some (a.eval y1)) none none).run P W = _
   rw [hl, run_slice_l W t none 0 0 hu' k1 0 (by omega) (by omega), hszr]; simp
  ·show (Instr.slice t _ (some (a.eval y1)) (some (a.eval y2)) none).run P W = _
   rw [hl, hhi, run_slice_lh W t none 0 0 hu' k1 k2 0 0 (by omega) (by omega) (by omega), hszr]; simp
 simp only [execOp, ho, hv, Sem.run_bind, Sem.run_pure]
 rw [run_sliceAt_slice W t _ _ _ _ hu', Option.map_none, hrun]
 rfl
theorem sound_appendZeros {c : Call} {x y : Operand} {t t' : TypeId} {d : Nat} {el : TypeId} {r : Ty} {k : IntKind} (hG : CtxTys P G) (ho : o.op = .call c) (hc : c.callee = .builtin .append) (hx : c.args.toList = [x, y]) (htt : c.argTypes.toList = [t, t']) (h : St w0 T f0 G.n e a W g) (hd : dstOk G.n o.dst = true) (hdst : o.dst = some d) (hv : a.eval x = .slice none 0 0)
  (hty : look t G.ty = some (.sl el r)) (hty' : look t' G.ty = some (.int k))
  (hr : (getInt y fun m => .chk (decide (0 < m) && decide (m < rowMax)) (putRow d el r (List.replicate m.toNat r.zero))).run e some = some e') (hK : ∀ a' W' g', St w0 T f0 G.n e' a' W' g' → K a' W') : o.wp P a W K Q := by
 obtain ⟨kd, m, hr1, hm⟩ := getInt_sound h hr
 obtain ⟨hb, hr2⟩ := chk_run hr1
 simp only [Bool.and_eq_true, decide_eq_true_eq] at hb
 obtain ⟨b1, b2⟩ := hb
 have htk := hG _ _ hty
 have hu := htk.sl_und
 obtain ⟨i, z, hi, hsz, hzz, hzc, hpos, hb1, hb2⟩ := htk.sl_info
 have hrm : rowMax = 549755813888 := rfl
 rw [hrm] at b2
 obtain ⟨mm, rfl⟩ := Int.eq_ofNat_of_zero_le (Int.le_of_lt b1)
 have hpl := htk.sl_row.plain
 have hzl : z.cells.size = r.sz := by have := (zero_rep g.fix W r hpl).len; rw [← hzc] at this; simpa using this
 have hbytes : mm * i.bytes ≤ 140737488355328 := Nat.le_trans (Nat.mul_le_mul (show mm ≤ 549755813888 by omega) hb2) (by decide)
 have hrun := Go.Lib.run_append_nil_zeros (P := P) W t t' o.type el i z kd k hu (TyOk.int_und (hG _ _ hty')) hi hzz mm (by omega) (by rw [hsz]; exact hpos) (by omega) (by omega)
 have hge := grownCap_ge W mm 0 el
 have hle := grownCap_le_maxLen W mm 0 el (by simp only [maxLen]; omega)
 have hz := zero_rows g.fix W r hpl z.cells hzc mm
 have hzs : ∀ nn, (Builtin.zeroCells z.cells nn).size = nn * r.sz := fun nn => by rw [size_zeroCells, hzl]
 obtain ⟨g', h', hrow⟩ := h.madeRow W.drew rfl rfl rfl rfl (Builtin.zeroCells z.cells mm ++ Builtin.zeroCells z.cells (grownCap W mm 0 el - mm)) el (c := grownCap W mm 0 el) hpos hz (fun kk u hk => by
  have hk' : kk < mm * r.sz := by have := (List.getElem?_eq_some_iff.1 hk).1; simpa using this
  rw [Array.getElem?_append_left (by rw [hzs]; exact hk')]
  simp only [Builtin.zeroCells, hzl]
  rw [← hk]
  simp [hzl, hk']) (by simpa using hge) (by simp only [List.length_replicate, lenMax]; omega) hle (by
  rw [Array.size_append, hzs, hzs, ← Nat.add_mul]
  have : mm + (grownCap W mm 0 el - mm) = grownCap W mm 0 el := by omega
  rw [this]; exact Nat.le_refl _)
 simp only [Int.toNat_natCast] at hr2
 rw [List.length_replicate] at hrow
 have hx2 : c.args.map a.eval = #[a.eval x, a.eval y] := by rw [args_two hx]; simp
 exact fin_row h hd hdst h' (free_arg e 0) hrow (by simp [execOp, ho, resolve, hc, types_two htt, hx2, hv, hm, invoke, builtin, hrun]) hr2 hK
theorem boxF_sound (h : St w0 T f0 G.n e a W g) (hd : dstOk G.n o.dst = true) {t : TypeId} {x : Operand} (ho : o.op = .box t x) (hr : (boxF G o.dst t x).run e some = some e') (hK : ∀ a' W' g', St w0 T f0 G.n e' a' W' g' → K a' W') : o.wp P a W K Q := by
 unfold boxF at hr
 split at hr
 ·rename_i d ty hdst hty
  obtain ⟨y, hr1, hy⟩ := getD_sound h hr
  obtain ⟨hr2, hfr⟩ := freeK_run _ 0 hr1
  simp only [Prog.run] at hr2
  split at hr2
  ·rename_i hu
   simp only [Prog.run] at hr2
   rw [put_run hr2] at hK
   obtain ⟨g', hb, h'⟩ := h.newBox (d := d) (vs := (a.eval x).cells) (dst_lt hd d hdst) (by rw [hu]; rfl) (Cells.split _ _ _ hy.2) (split_nils ty _ _) (fun k _ hk hh => by have := hfr k hk; rw [Nat.zero_add, hh] at this; cases this) t 0
   obtain ⟨g2, q1, -, q2, -⟩ := h'.freeze (i := d) (B := t) (cs := ty.split y) (ver := 0) (by simp [Env.set])
   have he : (e.set (.box d) (.box t (ty.split y) 0)).set (.box d) (.frz t ((ty.split y).map DV.clear) 0) = e.set (.box d) (.frz t (ty.split y) 0) := by
    rw [split_clear]
    funext p; simp only [Env.set]; split <;> rfl
   rw [he] at q2
   refine wp_value (v := .pointer (some ⟨W.heap.size, 0, none⟩)) (W' := W.alloc (.cells (a.eval x).cells t)) (by simp [execOp, ho, Instr.box, newVar, newRow]) ?_
   refine hK _ _ _ (q2.putDst hd (fun d' hd' => ?_) ?_)
   ·show _ = _
    rw [q1, hb]
   ·simp [PtrOk, Env.set, PV.isCell]
  ·simp [Prog.run] at hr2
 ·simp [Prog.run] at hr
theorem map_sound (hG : CtxOk P G) (h : St w0 T f0 G.n e a W g) (hd : dstOk G.n o.dst = true) (hr : (mapP G o).run e some = some e') (hK : ∀ a' W' g', St w0 T f0 G.n e' a' W' g' → K a' W') : o.wp P a W K Q := by
 have fails : Prog.fail.run e some = some e' → o.wp P a W K Q := fun h => by simp [Prog.run] at h
 unfold mapP at hr
 split at hr
 ·rename_i t ho
  split at hr
  ·rename_i d hdst
   exact sound_makeMap ho h hd hdst hr hK
  ·exact fails hr
 ·rename_i ho
  exact sound_putKey hG (.inl ho) h hr hK
 ·rename_i ho
  exact sound_putKey hG (.inr ho) h hr hK
 ·rename_i ho
  exact sound_lookupSet hG ho h hd hr hK
 ·rename_i t m ho
  split at hr
  ·rename_i d hdst
   exact sound_rangeSet hG ho h hd hdst hr hK
  ·exact fails hr
 ·rename_i ho
  exact sound_entrySet ho h hd hr hK
 ·exact fails hr
theorem RowAt.lendFix {fix : Nat → Nat → Prop} {own : Nat → Option Lab} {q : Lab} {v : Value} {el : TypeId} {r : Ty} {xs : List r.D} (h : RowAt fix own W q v el r xs) :
  ∃ L : Nat → Prop, (∀ b o, L b → ¬ fix b o) ∧ (∀ b, L b → own b = some q) ∧ Rep (fun b o => fix b o ∨ L b) W (.sl el r) xs [v] := by
 obtain ⟨A, c, rfl, k2, k3⟩ := h
 rcases k3 with ⟨rfl, rfl⟩ | ⟨b, off, cur, cs, rfl, m2, m3, m4, m5, m6, m7, m8, m9⟩
 ·have : xs = [] := List.eq_nil_of_length_eq_zero (by have := k2.1; omega)
  subst this
  exact ⟨fun _ => False, fun _ _ h => h.elim, fun _ h => h.elim, ⟨none, 0, rfl, k2, fun hn => absurd rfl hn⟩⟩
 ·refine ⟨fun b' => b' = b, fun b' o hb => by subst hb; exact m4 o, fun b' hb => by subst hb; exact m3, ?_⟩
  exact Rep.of_rows (m8.mono fun _ _ hf => ⟨.inl hf, fun _ h => h⟩) k2 fun k u hu => ⟨.inr rfl, by rw [m2.cell]; exact m9 _ _ hu⟩
theorem lendArgs_sound (h : St w0 T f0 n e a W g) : ∀ (ps : List Md) (xs : List Operand) {k : (tupTy ps).D → Prog}, (lendArgs ps xs k).run e some = some e' → ∃ z, (k z).run e some = some e' ∧ ∀ i (own : Nat → Option Lab), ArgsRep g.fix own W i ps z (xs.map a.eval)
 | [], [], k, hr => ⟨(), hr, fun _ _ => trivial⟩
 | [], _ :: _, _, hr => by simp [lendArgs, Prog.run] at hr
 | m :: ps, [], _, hr => by cases m <;> simp [lendArgs, Prog.run] at hr
 | m :: ps, x :: xs, k, hr => by
  cases m <;> try (simp [lendArgs, Prog.run] at hr; done)
  simp only [lendArgs] at hr
  obtain ⟨y, hr1, hy⟩ := getD_sound h hr
  obtain ⟨z, k1, k2⟩ := lendArgs_sound h ps xs hr1
  exact ⟨(y, z), k1, fun i own => ⟨hy, k2 (i + 1) own⟩⟩
theorem ArgsRep.fixed {fix fix' : Nat → Nat → Prop} {own : Nat → Option Lab} (hf : ∀ b o, fix b o → fix' b o) : ∀ (ps : List Md) (i : Nat) (z : (tupTy ps).D) (vs : List Value), ps.all isVal = true → ArgsRep fix own W i ps z vs → ArgsRep fix' own W i ps z vs
 | [], _, _, vs, _, h => by cases vs <;> exact h
 | m :: ps, i, z, vs, ha, h => by
  cases m <;> simp [isVal] at ha
  cases vs
  ·exact h.elim
  ·exact ⟨h.1.mono fun b o hb => ⟨hf b o hb, fun _ h => h⟩, ArgsRep.fixed hf ps (i + 1) z.2 _ (by simpa [isVal] using ha) h.2⟩
theorem Rep.here {fix fix' : Nat → Nat → Prop} {W' : World} : ∀ (t : Ty) (x : t.D) (cs : List Value), t.here = true → Rep fix W t x cs → Rep fix' W' t x cs
 | .unit, _, _, _, h => h
 | .int _, _, _, _, h => h
 | .bool, _, _, _, h => h
 | .str, _, _, _, h => h
 | .pair a b, x, _, ht, h => by
  simp only [Ty.here, Bool.and_eq_true] at ht
  obtain ⟨c1, c2, k0, k1, k2⟩ := h
  exact ⟨c1, c2, k0, Rep.here a _ _ ht.1 k1, Rep.here b _ _ ht.2 k2⟩
 | .sl _ _, _, _, ht, _ => by cases ht
 | .any, _, _, ht, _ => by cases ht
 | .clo _ _, _, _, ht, _ => by cases ht
 | .osl _ _, _, _, ht, _ => by cases ht
theorem RowAt.here {fix fix' : Nat → Nat → Prop} {own own' : Nat → Option Lab} {q : Lab} {v : Value} {el : TypeId} {r : Ty} {xs : List r.D} (hr : r.here = true) (hf : ∀ b o, fix' b o → fix b o) (hk : ∀ b, own b = some q → own' b = some q) (h : RowAt fix own W q v el r xs) : RowAt fix' own' W q v el r xs := by
 obtain ⟨A, c, h1, h2, h3⟩ := h
 exact ⟨A, c, h1, h2, h3.imp id fun ⟨b, off, cur, cs, k1, k2, k3, k4, k5, k6, k7, k8, k9⟩ => ⟨b, off, cur, cs, k1, k2, hk _ k3, fun o ho => k4 o (hf b o ho), k5, k6, k7, ⟨k8.1, fun i x hx => Rep.here _ _ _ hr (k8.2 i x hx)⟩, k9⟩⟩
theorem TupRep.here {fix fix' : Nat → Nat → Prop} {own own' : Nat → Option Lab} (hf : ∀ b o, fix' b o → fix b o) (hk : ∀ b, own b = some (.arg 1000000) → own' b = some (.arg 1000000)) : ∀ (rs : List Md) (x : (tupTy rs).D) (vs : List Value), rs.all Md.here = true → TupRep fix own W rs x vs → TupRep fix' own' W rs x vs
 | [], _, vs, _, h => by cases vs <;> exact h
 | m :: rs, x, vs, ha, h => by
  rw [List.all_cons, Bool.and_eq_true] at ha
  obtain ⟨ha1, ha2⟩ := ha
  cases m <;> try (cases ha1; done)
  ·cases vs
   ·exact h.elim
   ·exact ⟨⟨h.1.1, Rep.here _ _ _ ha1 h.1.2⟩, TupRep.here hf hk rs x.2 _ ha2 h.2⟩
  ·cases vs
   ·exact h.elim
   ·exact ⟨h.1.here ha1 hf hk, TupRep.here hf hk rs x.2 _ ha2 h.2⟩
theorem ResRep.here {fix fix' : Nat → Nat → Prop} {own own' : Nat → Option Lab} (hf : ∀ b o, fix' b o → fix b o) (hk : ∀ b, own b = some (.arg 1000000) → own' b = some (.arg 1000000)) {rs : List Md} {x : (tupTy rs).D} {v : Value} (ha : rs.all Md.here = true) (h : ResRep fix own W rs x v) : ResRep fix' own' W rs x v := by
 have tup : ∀ (rs : List Md) (x : (tupTy rs).D), rs.all Md.here = true → (∃ us, v = .tuple us ∧ TupRep fix own W rs x us.toList) → ∃ us, v = .tuple us ∧ TupRep fix' own' W rs x us.toList := fun rs x ha ⟨us, h1, h2⟩ => ⟨us, h1, h2.here hf hk _ _ _ ha⟩
 match rs, x, ha, h with
 | [], x, ha, h => exact tup _ x ha h
 | [.val t], x, ha, h => exact ⟨h.1, Rep.here _ _ _ (by simpa [Md.here] using ha) h.2⟩
 | [.own el r], x, ha, h => exact RowAt.here (W := W) (by simpa [Md.here] using ha) hf hk h
 | [.tip _], _, ha, _ => simp [Md.here] at ha
 | [.box _ _], _, ha, _ => simp [Md.here] at ha
 | [.nilp _], _, ha, _ => simp [Md.here] at ha
 | [.cap _], _, ha, _ => simp [Md.here] at ha
 | [.full _ _], _, ha, _ => simp [Md.here] at ha
 | [.take _ _], _, ha, _ => simp [Md.here] at ha
 | [.str _], _, ha, _ => simp [Md.here] at ha
 | m1 :: m2 :: rs, x, ha, h => cases m1 <;> cases m2 <;> exact tup _ x ha h
theorem sound_lendP {c : Call} {x : Operand} {f : FuncId} {xs : List Operand} {cs : List DV} {k j hv : Nat} (hF : ∀ f S, look f G.fns = some S → FOk P (f % 1000000) S) (ho : o.op = .call c) (hc : c.callee = .value (.func f)) (hx : c.args.toList = x :: xs)
  (h : St w0 T f0 G.n e a W g) (hd : dstOk G.n o.dst = true) (hdat : Dat g W (.aggh cs [(k, (j, hv))]) (a.eval x)) (hp : PtrOk e g (.aggh cs [(k, (j, hv))]) (a.eval x))
  (hr : (lendP G o.dst f xs cs k j hv).run e some = some e') (hK : ∀ a' W' g', St w0 T f0 G.n e' a' W' g' → K a' W') : o.wp P a W K Q := by
 unfold lendP at hr
 obtain ⟨hfl, hr⟩ := chk_run hr
 have hfl : f < 1000000 := by simpa using hfl
 split at hr
 ·rename_i t ps rs run hS
  obtain ⟨hchk, hr⟩ := chk_run hr
  simp only [Bool.and_eq_true] at hchk
  obtain ⟨hag, hpv, hrs⟩ := hchk
  obtain ⟨el, r, ys, ver, hbs, hr⟩ := seeRow_run hr
  obtain ⟨hpl, hr⟩ := chk_run hr
  split at hr
  ·rename_i y hy
   obtain ⟨z, hr1, hargs⟩ := lendArgs_sound h ps xs hr
   simp only [Prog.run] at hr1
   cases hz : run (y, z) with
   | none => rw [hz] at hr1; simp at hr1
   | some res =>
    rw [hz] at hr1
    simp only [Option.bind_some] at hr1
    have hF := hF _ _ hS
    have hmod : (f + 2000000000000) % 1000000 = f := by
     have := Nat.add_mul_mod_self_left f 1000000 2000000
     rw [Nat.mod_eq_of_lt hfl] at this
     exact this
    rw [hmod] at hF
    obtain ⟨us, huv, hcu, hnu⟩ := hdat
    obtain ⟨us', huv', hh⟩ := hp
    have huv2 := huv.symm.trans huv'
    injection huv2 with huv2
    subst huv2
    obtain ⟨u, hu, hok⟩ := hh _ List.mem_cons_self
    simp only at hu hok
    have hveq := hok.row hbs
    have hbrj := h.boxes j
    rw [hbs] at hbrj
    obtain ⟨L, l1, l2, l3⟩ := hbrj.1.lendFix
    have hklt : k < cs.length := by
     have := (Array.getElem?_eq_some_iff.1 hu).1
     have := hcu.len
     simp only [Array.length_toList] at this
     omega
    have hcl : Cells (fun b o => g.fix b o ∨ L b) W (rowVal cs k el r ys) us.toList := by
     unfold rowVal
     rw [putCells_one hklt]
     refine Cells.of_get (by rw [List.length_set]; exact hcu.len) fun jj dv w hj hw => ?_
     rw [List.getElem?_set] at hj
     split at hj
     ·rename_i he
      subst he
      injection hj with hj
      subst hj
      have hw' : us[k]? = some w := by simpa using hw
      rw [hu] at hw'
      injection hw' with hw'
      subst hw'
      rw [hveq]
      exact l3
     ·obtain ⟨w', hw', hr'⟩ := hcu.get jj dv hj
      rw [hw'] at hw
      injection hw with hw
      subst hw
      exact Rep.mono (fun b o hf => ⟨.inl hf, fun _ h => h⟩) _ _ _ hr'
    have hy1 : VRep (fun b o => g.fix b o ∨ L b) W t y (a.eval x) := by
     rw [huv]
     exact ⟨by rw [hag]; rfl, Ty.build_all hy hcl⟩
    obtain ⟨fn, n1, n2, n3⟩ := hF.fn
    have hargs2 : ArgsRep (fun b o => g.fix b o ∨ L b) (fun b => match g.own b with | some (.arg j) => some (.arg j) | _ => none) W 0 (.val t :: ps) (y, z) (c.args.toList.map a.eval) := by
     rw [hx]
     exact ⟨hy1, ArgsRep.fixed (fun b o hf => .inl hf) ps 1 z _ hpv (hargs 1 _)⟩
    have hcalls := hF.run (y, z) res W (fun b o => g.fix b o ∨ L b) (fun b => match g.own b with | some (.arg j) => some (.arg j) | _ => none) (c.args.toList.map a.eval) hz (fun b o hb => by
     rcases hb with hb | hb
     ·exact h.fixLt b o hb
     ·exact (h.ownNew b _ (l2 b hb)).1) (fun b q hb => by
     cases hq : g.own b with
     | none => simp [hq] at hb
     | some q' => exact (h.ownNew b q' hq).1) hargs2
    have hbody : fn.body.isNone = false := by cases hb : fn.body with
     | none => rw [hb] at n2; cases n2
     | some _ => rfl
    have hmap : (c.args.toList.map a.eval).toArray = c.args.map a.eval := by apply Array.ext'; simp
    have hv : a.eval (.func f) = .func (.func f) #[] #[] := rfl
    unfold Oper.wp
    have hex : (execOp a.eval o).run P W = .ok (.enter f (c.args.map a.eval)) W := by
     simp only [execOp, ho, resolve, hc, hv, Deferred.ofValue, invoke, callFunc, Sem.run_bind, Sem.run_pure, Result.andThen_ok, run_program, n1, n3, hbody]
     simp
    rw [hex]
    rw [hmap] at hcalls
    refine Calls.mono hcalls fun en W' hen => ?_
    obtain ⟨v, fix', own', rfl, hA, hR, -⟩ := hen
    have hA2 : After W W' g.fix (fun b o => fix' b o ∧ ¬ L b) (fun b => match g.own b with | some (.arg j) => some (.arg j) | _ => none) own' :=
     ⟨hA.os, hA.tape, hA.output, hA.size, hA.old, fun b o hf => ⟨⟨(hA.fixed b o (.inl hf)).1, fun hL => l1 b o hL hf⟩, (hA.fixed b o (.inl hf)).2⟩, fun b o hb hn hf => by
      rcases hA.fixNew b o hb hn hf.1 with hf' | hf'
      ·exact hf'
      ·exact absurd hf' hf.2, fun b o hf => hA.fixLt b o hf.1, hA.ownNew⟩
    obtain ⟨g2, q1, q2, q3, q4⟩ := h.after hA2
    have hR2 : ResRep g2.fix g2.own W' rs (splitR rs ((Md.val t :: ps).filter Md.isBox) res).1 v := by
     rw [q1]
     exact ResRep.here (fun b o hf => hf.1) (fun b hb => q3 b _ hb) hrs hR
    obtain ⟨g4, hfin⟩ := oneRes_sound q4 hd hR2 hr1
    exact hK _ _ _ hfin
  ·simp [Prog.run] at hr
 ·simp [Prog.run] at hr
theorem row_sound (hG : CtxOk P G) (h : St w0 T f0 G.n e a W g) (hd : dstOk G.n o.dst = true) (hr : (rowP G o).run e some = some e') (hK : ∀ a' W' g', St w0 T f0 G.n e' a' W' g' → K a' W') : o.wp P a W K Q := by
 have hT : CtxTys P G := fun t T h => (hG.ty t T h).1
 have plain : (opV G o).run e some = some e' → o.wp P a W K Q := fun hr => op_soundV hG o h hd hr hK
 have fails : Prog.fail.run e some = some e' → o.wp P a W K Q := fun h => by simp [Prog.run] at h
 have fails' : Prog.fail.run e some = some e' → o.wp P a W K Q := fails
 cases ho : o.op with
 | move x =>
  simp only [rowP, ho] at hr
  split at hr
  ·rename_i d hdst
   exact moveRow_sound h hd (isRowDst_some hdst) (by simp [execOp, ho]) hr hK
  ·cases hfz : isFrz G o.dst <;> simp only [hfz, cond_true, cond_false] at hr
   ·exact plain hr
   ·obtain ⟨pv, hr1, hdat, hp⟩ := getV_sound h hr
    split at hr1
    ·rw [put_run hr1] at hK
     have hv : a.eval x = .slice none 0 0 := hdat
     exact wp_value (v := .slice none 0 0) (W' := W) (by simp [execOp, ho, hv]) (hK _ _ _ (h.putDat hd rfl rfl (not_ptr rfl _)))
    ·exact plain hr1
 | assign x =>
  simp only [rowP, ho] at hr
  split at hr
  ·rename_i d hdst
   exact moveRow_sound h hd (isRowDst_some hdst) (by simp [execOp, ho]) hr hK
  ·exact plain hr
 | build t parts =>
  simp only [rowP, ho] at hr
  split at hr
  ·exact plain hr
  ·cases hbare : isBare G o.dst <;> simp only [hbare, cond_true, cond_false] at hr
   case true => exact plain hr
   split at hr
   ·rename_i ty hty
    obtain ⟨hag, hr⟩ := chk_run hr
    exact sound_buildH hT ho hty h hd hag hr hK
   ·exact fails hr
 | box t x =>
  simp only [rowP, ho] at hr
  cases hfz : isFrz G o.dst <;> simp only [hfz, cond_true, cond_false] at hr
  case true => exact boxF_sound h hd ho hr hK
  split at hr
  ·rename_i ks d hks hdst
   obtain ⟨pv, hr1, hdat, hp⟩ := getV_sound h hr
   split at hr1
   ·rename_i cs hs
    obtain ⟨vs, hv, hc, hn⟩ := hdat
    obtain ⟨us, hv2, hh⟩ := hp
    rw [hv] at hv2
    injection hv2 with hv2
    subst hv2
    exact boxH_sound h hd hdst hc hn hh hr1 (by simp [execOp, ho, Instr.box, newVar, newRow, hv, Value.cells]) hK
   ·exact plain hr1
  ·exact plain hr
 | alloc t =>
  simp only [rowP, ho] at hr
  split at hr
  ·rename_i ks d hks hdst
   cases hbare : isBare G o.dst <;> simp only [hbare, cond_true, cond_false] at hr
   case true => exact plain hr
   split at hr
   ·rename_i ty hty
    have htk := hT _ _ hty
    obtain ⟨z, hz1, hz2, hz3⟩ := htk.run_zero
    exact boxH_sound (vs := z.cells) h hd hdst (by rw [hz2]; exact zeros_cells _ _ _ htk.plain) (by rw [hz2]; exact zeros_nils _ htk.plain) (fun x hx => by cases hx) hr (by simp [execOp, ho, Instr.alloc, hz3, newVar, newRow]) hK
   ·exact fails hr
  ·exact plain hr
 | makeSlice t len cap =>
  simp only [rowP, ho] at hr
  split at hr
  ·rename_i d el r hdst hty
   exact sound_makeRow hT ho h hd (isRowDst_some hdst) hty hr hK
  ·exact fails hr
  ·exact plain hr
 | buildSlice t len parts =>
  simp only [rowP, ho] at hr
  split at hr
  ·rename_i d hdst
   split at hr
   ·rename_i el r hty
    split at hr
    ·rename_i hl
     exact sound_buildRow hT ho h hd (isRowDst_some hdst) hty hl hr hK
    ·exact fails hr
   ·exact fails hr
  ·exact plain hr
 | slice t x lo hi mx =>
  cases mx with
  | none =>
   simp only [rowP, ho] at hr
   obtain ⟨pv, hr1, hdat, hp⟩ := getV_sound h hr
   split at hr1
   ·split at hr1
    ·rename_i d hdst
     exact sound_sliceRow hT ho h hd (isRowDst_some hdst) hp hr1 hK
    ·exact fails hr1
   ·split at hr1
    ·rename_i hty
     exact sound_sliceNil hT hty ho h hd hdat hr1 hK
    ·exact plain hr1
   ·exact plain hr1
  | some mx =>
   cases lo with
   | some lo => exact plain (by simpa only [rowP, ho] using hr)
   | none => cases hi with
    | none => exact plain (by simpa only [rowP, ho] using hr)
    | some hi =>
     simp only [rowP, ho] at hr
     obtain ⟨pv, hr1, hdat, hp⟩ := getV_sound h hr
     split at hr1
     ·split at hr1
      ·rename_i d hdst
       exact sound_clipRow hT ho h hd (isRowDst_some hdst) hp hr1 hK
      ·exact fails hr1
     ·exact plain hr1
 | convert s t x =>
  simp only [rowP, ho] at hr
  obtain ⟨pv, hr1, hdat, hp⟩ := getV_sound h hr
  split at hr1
  ·split at hr1
   ·rename_i d hdst
    exact sound_convRow hT ho h hd (isRowDst_some hdst) hp hr1 hK
   ·exact fails hr1
  ·exact plain hr1
 | extract x i =>
  simp only [rowP, ho] at hr
  obtain ⟨pv, hr1, hdat, hp⟩ := getV_sound h hr
  split at hr1
  ·exact sound_extractRow ho h hd hdat hp hr1 hK
  ·exact plain hr1
 | indexAddr t x i =>
  simp only [rowP, ho] at hr
  obtain ⟨pv, hr1, hdat, hp⟩ := getV_sound h hr
  split at hr1
  ·simp only [Prog.run] at hr1
   split at hr1
   ·rename_i hb
    obtain ⟨hc, hr2⟩ := chk_run hr1
    simp only [Bool.and_eq_true] at hc
    have hq := Nat.eq_of_beq_eq_true hc.1
    subst hq
    obtain ⟨kd, m, hr3, hi⟩ := getInt_sound h hr2
    exact sound_holeIndex hT ho h hd hp hi hb hc.2 hr3 hK
   ·exact sound_rowIndex hT ho h hd hp hr1 hK
  ·simp only [Prog.run] at hr1
   split at hr1
   ·rename_i hb
    obtain ⟨hc, hr2⟩ := chk_run hr1
    simp only [Bool.and_eq_true] at hc
    obtain ⟨q1, q2, q3, q4, hc⟩ := hc
    have q1 := Nat.eq_of_beq_eq_true q1
    have q2 := Nat.eq_of_beq_eq_true q2
    have q3 := Nat.eq_of_beq_eq_true q3
    have q4 := Nat.eq_of_beq_eq_true q4
    subst q1; subst q2; subst q3; subst q4
    obtain ⟨kd, m, hr3, hi⟩ := getInt_sound h hr2
    exact sound_holeSub hT ho h hd hp hi hb hc hr3 hK
   ·exact sound_subIndex hT ho h hd hp hr1 hK
  ·exact plain hr1
 | fieldAddr t x f =>
  simp only [rowP, ho] at hr
  obtain ⟨pv, hr1, hdat, hp⟩ := getV_sound h hr
  split at hr1
  ·split at hr1
   ·rename_i ty hty
    split at hr1
    ·rename_i fo ft hf
     simp only [Prog.run] at hr1
     split at hr1
     ·rename_i hb
      obtain ⟨hc, hr2⟩ := chk_run hr1
      have hq := Nat.eq_of_beq_eq_true hc
      subst hq
      exact sound_holeField hT ho hty hf h hd hp hb hr2 hK
     ·exact sound_rowField hT ho hty hf h hd hp hr1 hK
    ·exact fails hr1
   ·exact fails hr1
  ·exact plain hr1
 | nilCheck x =>
  simp only [rowP, ho] at hr
  obtain ⟨pv, hr1, hdat, hp⟩ := getV_sound h hr
  split at hr1
  ·exact sound_rowNil ho h hd hp hr1 hK
  ·exact plain hr1
 | load t x =>
  simp only [rowP, ho] at hr
  obtain ⟨pv, hr1, hdat, hp⟩ := getV_sound h hr
  split at hr1
  ·split at hr1
   ·rename_i ty hty
    obtain ⟨hz, hr2⟩ := chk_run hr1
    simp only [Prog.run] at hr2
    split at hr2
    ·rename_i hb
     obtain ⟨hc, hr3⟩ := chk_run hr2
     simp only [Bool.and_eq_true] at hc
     obtain ⟨q1, q2, q3, q4⟩ := hc
     have q1 := Nat.eq_of_beq_eq_true q1
     have q2 := Nat.eq_of_beq_eq_true q2
     have q3 := Nat.eq_of_beq_eq_true q3
     have q4 := eqTy_iff.1 q4
     subst q1; subst q2; subst q3; subst q4
     exact sound_holeHead hT ho hty h hd hp hb hr3 hK
    ·obtain ⟨el, r, xs, ver, hb, hr3⟩ := seeRow_run hr2
     split at hr3
     ·rename_i e2 r2 y hsub
      obtain ⟨ht, hr4⟩ := chk_run hr3
      have ht := eqTy_iff.1 ht
      subst ht
      exact sound_subHead hT ho hty h hd hp hb hsub hr4 hK
     ·exact sound_rowLoad hT ho hty h hd hp hb hz hr3 hK
   ·exact fails hr1
  ·rename_i i lo
   simp only [Prog.run] at hr1
   split at hr1
   ·rename_i B cs ver hb
    split at hr1
    ·rename_i el r hty
     cases hl : cellLnk cs lo <;> simp only [hl, cond_true, cond_false] at hr1
     ·exact plain hr1
     ·obtain ⟨hlo, hr2⟩ := chk_run hr1
      simp only [Prog.run] at hr2
      split at hr2
      ·rename_i e1 r1 xs hv ver' hk
       obtain ⟨-, hr3⟩ := chk_run hr2
       obtain ⟨ys, ver0, hk⟩ := rowHead_row hk
       exact sound_loadK hT ho hty h hd hdat hb hl (by simpa using hlo) hk hr3 hK
      simp only [Prog.run] at hr2
      split at hr2
      ·rename_i hk
       obtain ⟨-, hr3⟩ := chk_run hr2
       exact sound_loadKH hT ho hty h hd hdat hb hl (by simpa using hlo) hk hr3 hK
      ·exact fails' hr2
    ·rename_i p q hty
     split at hr1
     ·rename_i ks hks hthaw
      cases hlend : isLend G o.dst <;> simp only [hlend, cond_true, cond_false] at hr1
      ·exact plain hr1
      ·exact sound_loadH hT ho hty rfl h hd hdat hb hr1 hK
     ·obtain ⟨-, hr2⟩ := chk_run hr1
      obtain ⟨e1, g1, hr3, h1⟩ := sound_thawLoad h hb hr2
      exact op_soundV hG o h1 hd hr3 hK
     ·exact plain hr1
    ·exact plain hr1
   ·exact plain hr1
  ·split at hr1
   ·rename_i ty hty
    simp only [Prog.run] at hr1
    split at hr1
    ·rename_i hb
     obtain ⟨hc, hr2⟩ := chk_run hr1
     simp only [Bool.and_eq_true] at hc
     obtain ⟨q1, q2, q3, q4, q5, q6, q7⟩ := hc
     have q1 := Nat.eq_of_beq_eq_true q1
     have q2 := Nat.eq_of_beq_eq_true q2
     have q3 := Nat.eq_of_beq_eq_true q3
     have q4 := Nat.eq_of_beq_eq_true q4
     subst q1; subst q2; subst q3; subst q4
     exact sound_holeLoad hT ho hty h hd hp hb (Nat.le_of_ble_eq_true q5) (Nat.le_of_ble_eq_true q6) (Nat.eq_of_beq_eq_true q7) hr2 hK
    ·exact sound_subLoad hT ho hty h hd hp hr1 hK
   ·exact fails hr1
  ·exact plain hr1
 | store t x y =>
  simp only [rowP, ho] at hr
  obtain ⟨pv, hr1, hdat, hp⟩ := getV_sound h hr
  have hnone : ∀ {b : Bool}, (!o.dst.isSome && b) = true → o.dst = none := fun hz => by
   simp only [Bool.and_eq_true] at hz
   cases hh : o.dst with
   | none => rfl
   | some d => rw [hh] at hz; simp at hz
  split at hr1
  ·split at hr1
   ·rename_i ty hty
    obtain ⟨hz, hr2⟩ := chk_run hr1
    obtain ⟨pw, hr3, hdat2, hp2⟩ := getV_sound h hr2
    split at hr3
    ·simp only [Prog.run] at hr3
     split at hr3
     ·split at hr3
      ·exact sound_moveIn hT ho hty h hp hp2 (hnone hz) hr3 hK
      ·exact sound_holeIn hT ho hty h hp hp2 (hnone hz) hr3 hK
     ·exact fails' hr3
    ·exact sound_rowStore hT ho hty h hp hr3 (hnone hz) hK
   ·exact fails hr1
  ·rename_i i lo
   simp only [Prog.run] at hr1
   split at hr1
   ·rename_i B cs ver hb
    obtain ⟨pw, hr2, hdat2, hp2⟩ := getV_sound h hr1
    split at hr2
    ·cases hl : cellLnk cs lo <;> simp only [hl, cond_true, cond_false] at hr2
     ·split at hr2
      ·rename_i el r hty
       obtain ⟨hz, hr3⟩ := chk_run hr2
       exact sound_storeV hT ho hty h hdat hp2 hb (hnone (b := true) (by simpa using hz)) hr3 hK
      ·exact plain hr2
     ·split at hr2
      ·rename_i ty hty
       obtain ⟨hz, hr3⟩ := chk_run hr2
       exact sound_storeK hT ho hty h hdat hp2 hb hl (hnone (b := true) (by simpa using hz)) hr3 hK
      ·exact fails hr2
    ·split at hr2
     ·rename_i ty hty
      obtain ⟨hz, hr3⟩ := chk_run hr2
      exact sound_storeF hT ho hty h hdat hdat2 hp2 hb (hnone hz) hr3 hK
     ·exact fails hr2
    ·split at hr2
     ·rename_i ty k hty hks
      obtain ⟨hz, hr3⟩ := chk_run hr2
      exact sound_storeN hT ho hty h hdat hdat2 hb (hnone hz) hr3 hK
     ·exact fails hr2
    ·exact plain hr2
   ·exact plain hr1
  ·split at hr1
   ·rename_i ty hty
    obtain ⟨hz, hr2⟩ := chk_run hr1
    simp only [Prog.run] at hr2
    split at hr2
    ·rename_i hb
     obtain ⟨yv, hr3, hy⟩ := getD_sound h hr2
     obtain ⟨hc, hr4⟩ := chk_run hr3
     simp only [Bool.and_eq_true] at hc
     obtain ⟨q1, q2, q3, q4, q5, q6, -, -⟩ := hc
     have q1 := Nat.eq_of_beq_eq_true q1
     have q2 := Nat.eq_of_beq_eq_true q2
     have q3 := Nat.eq_of_beq_eq_true q3
     have q4 := Nat.eq_of_beq_eq_true q4
     subst q1; subst q2; subst q3; subst q4
     split at hr4
     ·rename_i z hzz
      simp only [Prog.run, Option.some.injEq] at hr4
      exact sound_holeStore hT ho hty h hp (hnone hz) hy.2 hb (Nat.le_of_ble_eq_true q5) (Nat.eq_of_beq_eq_true q6) hzz (by rw [hr4]; exact hK)
     ·exact fails' hr4
    ·exact sound_subStore hT ho hty h hp (hnone hz) hr2 hK
   ·exact fails hr1
  ·exact plain hr1
 | call c =>
  cases hc : c.callee with
  | value x =>
   cases x with
   | func f =>
    simp only [rowP, ho, hc] at hr
    split at hr
    ·rename_i x xs hx
     obtain ⟨pv, hr1, hdat, hp⟩ := getV_sound h hr
     split at hr1
     ·exact sound_lendP hG.fns ho hc hx h hd hdat hp hr1 hK
     ·exact plain hr1
    ·exact plain hr
   | _ => exact plain (by simpa only [rowP, ho, hc] using hr)
  | invoke r m => exact plain (by simpa only [rowP, ho, hc] using hr)
  | builtin b =>
   cases b
   case len =>
    simp only [rowP, ho, hc] at hr
    split at hr
    ·rename_i x t hx ht
     obtain ⟨pv, hr1, hdat, hp⟩ := getV_sound h hr
     split at hr1
     ·exact sound_rowLen hT ho hc hx ht h hd hp hr1 hK
     ·exact plain hr1
    ·exact fails hr
   case append =>
    simp only [rowP, ho, hc] at hr
    split at hr
    ·rename_i x y t t' hx ht
     obtain ⟨pv, hr1, hdat, hp⟩ := getV_sound h hr
     split at hr1
     ·split at hr1
      ·rename_i d hdst
       exact sound_rowAppend hT ho hc hx ht h hd (isRowDst_some hdst) hp hr1 hK
      ·exact fails hr1
     ·split at hr1
      ·rename_i d el r k hdst hty hty'
       exact sound_appendZeros hT ho hc hx ht h hd (isRowDst_some hdst) hdat hty hty' hr1 hK
      ·exact plain hr1
     ·exact plain hr1
    ·exact fails hr
   case cap =>
    simp only [rowP, ho, hc] at hr
    split at hr
    ·rename_i x t hx htt
     split at hr
     ·rename_i hty
      obtain ⟨pv, hr1, hdat, hp⟩ := getV_sound h hr
      split at hr1
      ·exact sound_capNil hT hty ho hc hx htt h hd hdat hr1 hK
      ·exact fails hr1
     ·exact fails hr
    ·exact fails hr
   all_goals exact plain (by simpa only [rowP, ho, hc] using hr)
 | makeMap _ _ => exact map_sound hG h hd (by simpa only [rowP, ho] using hr) hK
 | mapUpdate _ _ _ _ => exact map_sound hG h hd (by simpa only [rowP, ho] using hr) hK
 | insert _ _ _ _ => exact map_sound hG h hd (by simpa only [rowP, ho] using hr) hK
 | lookup _ _ _ _ => exact map_sound hG h hd (by simpa only [rowP, ho] using hr) hK
 | range _ _ => exact map_sound hG h hd (by simpa only [rowP, ho] using hr) hK
 | entry _ => exact map_sound hG h hd (by simpa only [rowP, ho] using hr) hK
 | _ => exact plain (by simpa only [rowP, ho] using hr)
theorem St.after0 {n : Nat} (h : St w0 T f0 n e a W g) {W' : World} {fix' : Nat → Nat → Prop} {own' : Nat → Option Lab} (hA : After W W' g.fix fix' (fun _ => none) own') :
  ∃ g', g'.fix = fix' ∧ g'.bx = g.bx ∧ St w0 T f0 n e a W' g' ∧ Move (fun _ => False) W W' g g' := by
 let g' : Gh := ⟨fix', g.own, g.bx⟩
 have hm : Move (fun _ => False) W W' g g' := ⟨hA.fixed, fun b q hb _ => ⟨hb, hA.old b (h.ownNew b q hb).1 rfl, fun oo hoo => hA.fixNew b oo (h.ownNew b q hb).1 rfl hoo⟩⟩
 exact ⟨g', rfl, rfl, h.move hm (fun _ hx => hx.elim) (fun _ _ => rfl) hA.os hA.tape hA.output hA.size (fun b hb _ => hA.old b (Nat.lt_of_lt_of_le hb h.size) rfl) (fun b q hq => ⟨Nat.lt_of_lt_of_le (h.ownNew b q hq).1 hA.size, (h.ownNew b q hq).2⟩) hA.fixLt (fun b oo hb _ hf => hA.fixNew b oo (Nat.lt_of_lt_of_le hb h.size) rfl hf), hm⟩
theorem peek_sound (hG : CtxOk P G) {o2 : Oper} (h : St w0 T f0 G.n e a W g) (hd : dstOk G.n o.dst = true) (hd2 : dstOk G.n o2.dst = true) (hr : (peekP G o o2).run e some = some e') (hK : ∀ a' W' g', St w0 T f0 G.n e' a' W' g' → K a' W') :
  o.guard = none ∧ o2.guard = none ∧ o.wp P a W (fun a1 W1 => o2.wp P a1 W1 K Q) Q := by
 unfold peekP at hr
 split at hr
 ·rename_i c c2 d ho ho2 hdst
  split at hr
  ·rename_i f x y t t' s hc hc2 hx htt hx2
   obtain ⟨hchk, hr1⟩ := chk_run hr
   clear hr
   simp only [Bool.and_eq_true, Bool.not_eq_true', Nat.blt_eq] at hchk
   obtain ⟨hsd, htb, hfl, hg1, hg2⟩ := hchk
   have hsd := Nat.eq_of_beq_eq_true hsd
   have htb := Nat.eq_of_beq_eq_true htb
   subst hsd; subst htb
   have hg1 : o.guard = none := by simpa using hg1
   have hg2 : o2.guard = none := by simpa using hg2
   refine ⟨hg1, hg2, ?_⟩
   obtain ⟨pv, hr2, hdat, hp⟩ := getV_sound h hr1
   split at hr2
   ·rename_i j hv
    obtain ⟨el, r, xs, ver, hb, hr3⟩ := seeRow_run hr2
    obtain ⟨ht, hr4⟩ := chk_run hr3
    have htk := (hG.ty _ _ (eqTy_look ht)).1
    obtain ⟨ys, hr5, hys⟩ := getD_sound h hr4
    obtain ⟨hl, hr6⟩ := chk_run hr5
    simp only [Bool.and_eq_true] at hl
    obtain ⟨hl, -, hpl⟩ := hl
    split at hr6
    ·rename_i t2 t3 run hS
     obtain ⟨hhere, hr7⟩ := chk_run hr6
     split at hr7
     ·rename_i z hz
      obtain ⟨tp, hz⟩ := DV.as_eq hz
      injection hz with q1 q2 q3
      subst q1
      have q2 := eq_of_heq q2
      subst q2
      simp only [Prog.run] at hr7
      cases hw : run (xs ++ ys, ()) with
      | none => rw [hw] at hr7; simp at hr7
      | some w =>
       rw [hw] at hr7
       simp only [Option.bind_some] at hr7
       have hvv := (hdr_row h hp hb).1
       obtain ⟨g1, f1, f2, h1, hrow1, -⟩ := h.lend hb (.arg 0)
       rw [← hvv] at hrow1
       obtain ⟨v', W', g', q', k1, k2, k3, k4, k5, k6⟩ := h1.appendRow (P := P) (t := t) (ty := o.type) htk hrow1 (free_arg _ 0) (by rw [f1]; exact vrep_one hys rfl) (of_decide_eq_true hl)
       have hx3 : c.args.map a.eval = #[a.eval x, a.eval y] := by rw [args_two hx]; simp
       refine wp_value (v := v') (W' := W') (by simp [execOp, ho, resolve, hc, types_two htt, hx3, invoke, builtin, k1]) ?_
       rw [hdst]
       have hdn : s < G.n := dst_lt hd s hdst
       have hput := k2.put hdn (pv := .unk) (v := v') trivial trivial
       have hev : (a.put (some s) v').eval (.tmp s) = v' := by
        have hsz := k2.tmps
        simp [Act.eval, Act.put, Array.getD_eq_getD_getElem?, hsz, hdn]
       -- the call
       have hF := hG.fns _ _ hS
       have hmod : (f + 2000000000000) % 1000000 = f := by
        have := Nat.add_mul_mod_self_left f 1000000 2000000
        rw [Nat.mod_eq_of_lt hfl] at this
        exact this
       rw [hmod] at hF
       obtain ⟨L, l1, l2, l3⟩ := k3.lendFix
       obtain ⟨fn, n1, n2, n3⟩ := hF.fn
       have hvag : Value.isAgg v' = false := k3.cell.1
       have hcells : v'.cells.toList = [v'] := k3.cell.2.2
       have hcalls := hF.run (xs ++ ys, ()) w W' (fun b o => g'.fix b o ∨ L b) (fun _ => none) [v'] hw (fun b o hb => by
        rcases hb with hb | hb
        ·exact k2.fixLt b o hb
        ·exact (k2.ownNew b _ (l2 b hb)).1) (fun b q hb => by cases hb) ⟨⟨hvag, by rw [hcells]; exact l3⟩, trivial⟩
       have hbody : fn.body.isNone = false := by cases hb : fn.body with
        | none => rw [hb] at n2; cases n2
        | some _ => rfl
       have hargs : c2.args.map (a.put (some s) v').eval = #[v'] := by
        have : c2.args = #[.tmp s] := by apply Array.ext'; rw [hx2]
        rw [this]; simp [hev]
       have hfv : (a.put (some s) v').eval (.func f) = .func (.func f) #[] #[] := rfl
       unfold Oper.wp
       have hex : (execOp (a.put (some s) v').eval o2).run P W' = .ok (.enter f #[v']) W' := by
        simp only [execOp, ho2, resolve, hc2, hfv, Deferred.ofValue, invoke, callFunc, Sem.run_bind, Sem.run_pure, Result.andThen_ok, run_program, n1, n3, hbody, hargs]
        simp
       rw [hex]
       refine Calls.mono hcalls fun en W2 hen => ?_
       obtain ⟨v2, fix', own', rfl, hA, hR, -⟩ := hen
       have hA2 : After W' W2 g'.fix (fun b o => fix' b o ∧ ¬ L b) (fun _ => none) own' :=
        ⟨hA.os, hA.tape, hA.output, hA.size, hA.old, fun b o hf => ⟨⟨(hA.fixed b o (.inl hf)).1, fun hL => l1 b o hL hf⟩, (hA.fixed b o (.inl hf)).2⟩, fun b o hb hn hf => by
         rcases hA.fixNew b o hb hn hf.1 with hf' | hf'
         ·exact hf'
         ·exact absurd hf' hf.2, fun b o hf => hA.fixLt b o hf.1, hA.ownNew⟩
       obtain ⟨g2, p1, p2, p3, p4⟩ := hput.after0 hA2
       have hrow2 := k6.move p4 fun hh => hh
       have hjs : ((e.set (.box j) (.lrow r xs.length hv ver)).set (.slot s) .unk) (.box j) = .lrow r xs.length hv ver := by simp [Env.set]
       have hh2 : (g2.bx j).h = a.eval x := by rw [p2, k5, f2]; exact hvv.symm
       obtain ⟨g3, s1, s2, s3, -⟩ := p3.unlend hjs (free_arg _ 0) (by rw [hh2]; exact hrow2) rfl hpl (ver + 1) (Nat.lt_succ_self _)
       have he : (((e.set (.box j) (.lrow r xs.length hv ver)).set (.slot s) .unk).set (.box j) (.row el r xs hv (ver + 1))) = (e.set (.box j) (.row el r xs hv (ver + 1))).set (.slot s) .unk := by
        funext p
        cases p <;> simp only [Env.set]
        ·simp
        ·rename_i i
         by_cases hi : i = j <;> simp [hi]
       rw [he] at s3
       have hres : VRep g3.fix W2 t3 w.1 v2 := ⟨hR.1, Rep.here _ _ _ hhere hR.2⟩
       rw [put_run hr7] at hK
       exact hK _ _ _ (s3.putDat hd2 (of_dat hres) (of_clear _ _) (of_ptr _ _ _))
     ·simp [Prog.run] at hr7
    ·simp [Prog.run] at hr6
   ·simp [Prog.run] at hr2
  ·simp [Prog.run] at hr
 ·simp [Prog.run] at hr
theorem op_sound (hG : CtxOk P G) (o : Oper) (h : St w0 T f0 G.n e a W g) (hd : dstOk G.n o.dst = true) (hr : (opP G o).run e some = some e') (hK : ∀ a' W' g', St w0 T f0 G.n e' a' W' g' → K a' W') : o.wp P a W K Q := by
 obtain ⟨e1, g1, hr1, h1⟩ := thawP_sound _ h hr
 exact row_sound hG h1 hd hr1 hK
end
section
variable {Ws bxs : List Nat} {e : Env}
theorem mono_seeRow {j hv : Nat} {k : (e : TypeId) → (r : Ty) → List r.D → Nat → Prog} (h : ∀ el r xs ver, e (.box j) = .row el r xs hv ver → Mono Ws bxs (k el r xs ver) e) : Mono Ws bxs (seeRow j hv k) e := by
 simp only [seeRow, Mono]
 split
 ·rename_i el r xs hv' ver hb
  intro hh
  have := Nat.eq_of_beq_eq_true hh
  subst this
  exact h _ _ _ _ hb
 ·trivial
theorem mono_seeSub {j hv ver i off : Nat} {k : (e : TypeId) → (r : Ty) → List r.D → (e2 : TypeId) → (r2 : Ty) → List r2.D → Prog} (h : ∀ el r xs e2 r2 y, e (.box j) = .row el r xs hv ver → Mono Ws bxs (k el r xs e2 r2 y) e) : Mono Ws bxs (seeSub j hv ver i off k) e := by
 simp only [seeSub, Mono]
 split
 ·rename_i el r xs hv' ver' hb
  intro hh
  simp only [Bool.and_eq_true] at hh
  have q1 := Nat.eq_of_beq_eq_true hh.1
  have q2 := Nat.eq_of_beq_eq_true hh.2
  subst q1; subst q2
  split
  ·exact h _ _ _ _ _ _ hb
  ·trivial
 ·trivial
theorem mono_nestRow {d : Nat} (hd : d ∈ Ws) {el : TypeId} {r : Ty} {m : Nat} : Mono Ws bxs (nestRow d el r m) e := by
 simp only [nestRow, placeRow0, Mono]
 split <;> first | exact ⟨.inl hd, hd, trivial⟩ | trivial
theorem mono_moveIn {G : Ctx} {T : Ty} {j hv i off s hs : Nat} : Mono Ws G.bxs (moveIn G T j hv i off s hs) e := by
 unfold moveIn
 refine mono_seeRow fun el r xs ver hb => ?_
 split
 ·intro hc
  simp only [Bool.and_eq_true, Bool.not_eq_true'] at hc
  obtain ⟨⟨⟨⟨-, -⟩, hne⟩, hj⟩, -, hs'⟩ := hc
  have hjs : ¬ j = s := fun he => by subst he; rw [Nat.beq_refl] at hne; cases hne
  refine mono_seeRow fun el' r' ys ver2 hbs => ?_
  split
  ·split
   ·refine ⟨mset' (by simpa using hs') (by rw [hbs]; rfl) rfl (by rw [hbs]; simp only [verOf]; omega) (by rw [hbs]; rfl), mset' (by simpa using hj) ?_ rfl ?_ ?_, trivial⟩ <;> simp only [Env.set, Place.box.injEq, if_neg hjs, hb]
    ·rfl
    ·simp only [verOf]; omega
    ·rfl
   ·trivial
  ·trivial
 ·trivial
theorem mono_holeIn {G : Ctx} {T : Ty} {j hv i off s hs : Nat} : Mono Ws G.bxs (holeIn G T j hv i off s hs) e := by
 unfold holeIn
 refine mono_seeRow fun el r xs ver hb => ?_
 split
 ·intro hc
  simp only [Bool.and_eq_true, Bool.not_eq_true'] at hc
  obtain ⟨-, -, -, hne, -, hj, hs'⟩ := hc
  have hjs : ¬ j = s := fun he => by subst he; rw [Nat.beq_refl] at hne; cases hne
  refine mono_seeRow fun el' r' ys ver2 hbs => ?_
  split
  ·refine ⟨mset' (by simpa using hs') (by rw [hbs]; rfl) rfl (by rw [hbs]; simp only [verOf]; omega) (by rw [hbs]; rfl), mset' (by simpa using hj) ?_ rfl ?_ ?_, trivial⟩ <;> simp only [Env.set, Place.box.injEq, if_neg hjs, hb]
   ·rfl
   ·simp only [verOf]; omega
   ·rfl
  ·trivial
 ·trivial
theorem mono_leave {j hv ver : Nat} {el : TypeId} {r : Ty} {xs : List r.D} (hb : e (.box j) = .row el r xs hv ver) (hj : j ∈ bxs) {k : Prog} (h : ∀ e', Mono Ws bxs k e') : Mono Ws bxs (.set (.box j) (.gone hv (ver + 1)) k) e :=
 ⟨mset' hj (by rw [hb]; rfl) rfl (by rw [hb]; simp only [verOf]; omega) (by rw [hb]; rfl), h _⟩
theorem mono_moveRow {G : Ctx} {d : Nat} (hd : d ∈ Ws) {x : Operand} {t : TypeId} : Mono Ws G.bxs (moveRow G d x t) e := by
 refine mono_getV fun v => ?_
 split
 ·refine mono_seeRow fun el r xs ver hb => ?_
  cases hc : G.bxs.contains _ <;> simp only [cond_true, cond_false]
  ·trivial
  ·exact mono_leave hb (by simpa using hc) fun _ => mono_putRow hd
 ·split
  ·exact mono_putRow hd
  ·trivial
 ·trivial
theorem mono_thawP {G : Ctx} {k : Prog} (h : ∀ e, Mono Ws G.bxs k e) : ∀ (l : List Nat) {e : Env}, (∀ s ∈ l, s ∈ Ws) → Mono Ws G.bxs (thawP G k l) e
 | [], e, _ => h e
 | s :: l, e, hs => by
  simp only [thawP, Mono]
  split
  ·rename_i j hv hsl
   simp only [Mono]
   split
   ·rename_i el r xs hv' ver hb
    cases hc : Nat.beq hv hv' && G.bxs.contains j && r.plain <;> simp only [cond_true, cond_false]
    ·exact mono_thawP h l fun s hs' => hs s (List.mem_cons_of_mem _ hs')
    ·simp only [Bool.and_eq_true] at hc
     have := Nat.eq_of_beq_eq_true hc.1.1
     subst this
     refine ⟨hs s List.mem_cons_self, mset' (by simpa using hc.1.2) ?_ rfl ?_ ?_, mono_thawP h l fun s hs' => hs s (List.mem_cons_of_mem _ hs')⟩
     ·simp only [Env.set, reduceCtorEq, if_false]; rw [hb]; rfl
     ·simp only [Env.set, reduceCtorEq, if_false]; rw [hb]; simp only [verOf]; omega
     ·simp only [Env.set, reduceCtorEq, if_false]; rw [hb]; rfl
   ·exact mono_thawP h l fun s hs' => hs s (List.mem_cons_of_mem _ hs')
  ·exact mono_thawP h l fun s hs' => hs s (List.mem_cons_of_mem _ hs')
theorem mono_getKey {x : Operand} {k : Int → Prog} (h : ∀ v, Mono Ws bxs (k v) e) : Mono Ws bxs (getKey x k) e := by
 refine mono_getV fun v => ?_
 split
 ·exact fun _ => h _
 ·trivial
theorem mono_getSet {G : Ctx} {x : Operand} {k : Nat → List Int → Nat → Prog} (h : ∀ j ks ver, e (.box j) = .set ks true ver → j ∈ G.bxs → Mono Ws bxs (k j ks ver) e) : Mono Ws bxs (getSet G x k) e := by
 refine mono_getV fun v => ?_
 split
 ·rename_i j
  simp only [Mono]
  split
  ·rename_i ks ver hb
   exact fun hc => h _ _ _ hb (by simpa using hc)
  ·trivial
 ·trivial
theorem mono_putKey {G : Ctx} {dst : Option Nat} {t : TypeId} {m x v : Operand} : Mono Ws G.bxs (putKeyP G dst t m x v) e :=
 fun _ => mono_getSet fun j ks ver hb hj => mono_getKey fun _ => mono_getD fun _ => fun _ => ⟨mset' hj (by rw [hb]; rfl) rfl (by rw [hb]; simp only [verOf]; omega) (by rw [hb]; rfl), trivial⟩
theorem map_mono (G : Ctx) (o : Oper) (e : Env) : Mono (opWrites G o) G.bxs (mapP G o) e := by
 have hd : ∀ d, o.dst = some d → d ∈ opWrites G o := fun d h => by simp [opWrites, h]
 have hp : ∀ v e, Mono (opWrites G o) G.bxs (put o.dst v .done) e := fun v e => mono_put hd mono_done
 unfold mapP
 split
 ·split
  ·rename_i d hdst
   intro _
   simp only [Mono]
   split
   ·exact ⟨.inl (hd _ hdst), hp _ _⟩
   ·trivial
  ·trivial
 ·exact mono_putKey
 ·exact mono_putKey
 ·exact fun _ => mono_getSet fun _ _ _ _ _ => mono_getKey fun _ => hp _ _
 ·split
  ·rename_i d hdst
   refine fun _ => mono_getSet fun j ks ver hb hj => ?_
   simp only [Mono]
   split
   ·exact ⟨mset' hj (by rw [hb]; rfl) rfl (by rw [hb]; simp only [verOf]; omega) (by rw [hb]; rfl), .inl (hd _ hdst), hp _ _⟩
   ·trivial
  ·trivial
 ·refine mono_getV fun v => ?_
  split
  ·simp only [Mono]
   split
   ·exact hp _ _
   ·trivial
  ·trivial
 ·trivial
theorem mono_placeK {p : Nat} (hp : p ∈ bxs) (hl : 2000000 ≤ p) {el : TypeId} {r : Ty} {xs : List r.D} {k : Nat → Prog} (h : ∀ hv e', (∀ i, i ≠ p → e' (.box i) = e (.box i)) → Mono Ws bxs (k hv) e') : Mono Ws bxs (placeRow0 p el r xs k) e := by
 have he : ∀ v i, i ≠ p → (e.set (.box p) v) (.box i) = e (.box i) := fun v i hi => by simp [Env.set, hi]
 simp only [placeRow0, Mono]
 split
 ·rename_i hb
  exact ⟨.inr ⟨hp, by rw [hb]; simp [verOf], fun hlt => by omega⟩, h _ _ (he _)⟩
 ·rename_i hb
  exact ⟨.inr ⟨hp, by rw [hb]; simp only [verOf]; omega, fun hlt => by omega⟩, h _ _ (he _)⟩
 ·rename_i hb
  exact ⟨.inr ⟨hp, by rw [hb]; simp only [verOf]; omega, fun hlt => by omega⟩, h _ _ (he _)⟩
 ·trivial
theorem mono_linkK {G : Ctx} {d : Nat} {hs : List (Nat × (Nat × Nat))} : ∀ (ks : List Nat) (cs : List DV) {e : Env} {c : List DV → Prog}, (∀ cs' e', Mono Ws G.bxs (c cs') e') → Mono Ws G.bxs (linkK G d hs ks cs c) e
 | [], _, _, _, h => h _ _
 | k :: ks, cs, e, c, h => by
  simp only [linkK]
  intro hc
  simp only [Bool.and_eq_true] at hc
  split
  ·refine mono_seeRow fun el r xs ver hb => fun hc2 => ?_
   simp only [Bool.and_eq_true] at hc2
   exact mono_leave hb (by simpa using hc2.2.1) fun e' => mono_placeK (by simpa using hc.2) (lk_ge d k) fun _ _ _ => mono_linkK ks cs h
  ·split
   ·intro _
    exact mono_placeK (by simpa using hc.2) (lk_ge d k) fun _ _ _ => mono_linkK ks _ h
   ·trivial
theorem mono_boxH {G : Ctx} {dst : Option Nat} {d : Nat} (hd : ∀ d, dst = some d → d ∈ Ws) (hdd : d ∈ Ws) {t : TypeId} {ks : List Nat} {cs : List DV} {hs : List (Nat × (Nat × Nat))} : Mono Ws G.bxs (boxH G dst d t ks cs hs) e := by
 simp only [boxH, Mono]
 split
 ·refine mono_linkK ks cs fun cs' e' => ?_
  intro _
  exact ⟨.inl hdd, mono_put hd mono_done⟩
 ·trivial
theorem mono_buildH {T : Ty} : ∀ (l : List (Nat × Operand)) (cs : List DV) (hs : List (Nat × (Nat × Nat))) {k : List DV → List (Nat × (Nat × Nat)) → Prog}, (∀ cs hs, Mono Ws bxs (k cs hs) e) → Mono Ws bxs (buildH T l cs hs k) e
 | [], _, _, _, h => h _ _
 | (i, x) :: l, cs, hs, k, h => by
  simp only [buildH]
  split
  ·refine mono_getV fun v => ?_
   split
   ·exact mono_seeRow fun _ _ _ _ _ => fun _ => mono_buildH l _ _ h
   ·exact mono_getD fun _ => fun _ => mono_buildH l _ _ h
  ·trivial
theorem mono_storeK {G : Ctx} {T : Ty} {i lo s hs : Nat} : Mono Ws G.bxs (storeK G T i lo s hs) e := by
 unfold storeK
 refine mono_seeRow fun el r xs ver hb => fun hc => ?_
 simp only [Bool.and_eq_true] at hc
 exact mono_leave hb (by simpa using hc.2.2.1) fun e' => mono_placeK (by simpa using hc.2.2.2.1) (lk_ge i lo) fun _ _ _ => trivial
theorem mono_putH {G : Ctx} {T : Ty} {i lo k : Nat} {B el : TypeId} {r : Ty} {xs : List r.D} {cs ds : List DV} {ver : Nat} (hb : e (.box i) = .box B cs ver) : Mono Ws G.bxs (putH G T i lo k ds B cs ver el r xs) e := by
 unfold putH
 intro hc
 simp only [Bool.and_eq_true, Nat.blt_eq] at hc
 obtain ⟨-, c2, -, c3, -⟩ := hc
 have hki : ¬ i = lk i (lo + k) := fun hh => lk_ne i _ hh.symm
 simp only [Mono]
 split
 ·rename_i e0 r0 xs0 h2 v2 hKb
  refine ⟨.inr ⟨by simpa using c2, by rw [hKb]; simp only [verOf]; omega, fun hlt => by have := lk_ge i (lo + k); omega⟩, ?_, ?_⟩
  ·have hE : (e.set (.box (lk i (lo + k))) (.gone h2 (v2 + 1))) (.box i) = .box B cs ver := by simp [Env.set, hki, hb]
   exact mset' (by simpa using c3) (by rw [hE]; rfl) rfl (by rw [hE]; simp only [verOf]; omega) (by rw [hE]; rfl)
  ·exact mono_placeK (by simpa using c2) (lk_ge i (lo + k)) fun _ _ _ => trivial
 ·exact ⟨mset' (by simpa using c3) (by rw [hb]; rfl) rfl (by rw [hb]; simp only [verOf]; omega) (by rw [hb]; rfl), mono_placeK (by simpa using c2) (lk_ge i (lo + k)) fun _ _ _ => trivial⟩
 ·exact ⟨mset' (by simpa using c3) (by rw [hb]; rfl) rfl (by rw [hb]; simp only [verOf]; omega) (by rw [hb]; rfl), mono_placeK (by simpa using c2) (lk_ge i (lo + k)) fun _ _ _ => trivial⟩
 ·trivial
theorem mono_storeF {G : Ctx} {T : Ty} {i lo k j hv : Nat} {B : TypeId} {cs ds : List DV} {ver : Nat} (hb : e (.box i) = .box B cs ver) : Mono Ws G.bxs (storeF G T i lo k j hv ds B cs ver) e := by
 unfold storeF
 refine mono_seeRow fun el r xs ver1 hbj => fun hc => ?_
 simp only [Bool.and_eq_true] at hc
 have hij : ¬ i = j := fun hh => by subst hh; rw [hb] at hbj; cases hbj
 exact ⟨mset' (by simpa using hc.1) (by rw [hbj]; rfl) rfl (by rw [hbj]; simp only [verOf]; omega) (by rw [hbj]; rfl), mono_putH (by simp [Env.set, hij, hb])⟩
theorem mono_storeN {G : Ctx} {T : Ty} {i lo k : Nat} {B : TypeId} {cs ds : List DV} {ver : Nat} (hb : e (.box i) = .box B cs ver) : Mono Ws G.bxs (storeN G T i lo k ds B cs ver) e := by
 unfold storeN
 split
 ·exact mono_putH hb
 ·trivial
theorem mono_loadH {dst : Option Nat} (hd : ∀ d, dst = some d → d ∈ Ws) {T : Ty} {i lo : Nat} {ks : List Nat} {cs : List DV} : Mono Ws bxs (loadH dst T i lo ks cs) e := by
 unfold loadH
 split
 ·intro _
  simp only [Mono]
  split
  ·exact mono_put hd mono_done
  ·trivial
 ·trivial
theorem mono_lendArgs : ∀ (ps : List Md) (xs : List Operand) {k : (tupTy ps).D → Prog}, (∀ z, Mono Ws bxs (k z) e) → Mono Ws bxs (lendArgs ps xs k) e
 | [], [], _, h => h _
 | [], _ :: _, _, _ => trivial
 | m :: ps, [], _, _ => by cases m <;> trivial
 | m :: ps, x :: xs, k, h => by
  cases m <;> try trivial
  exact mono_getD fun y => mono_lendArgs ps xs fun z => h _
theorem mono_lendP {G : Ctx} {dst : Option Nat} (hd : ∀ d, dst = some d → d ∈ Ws) {f : FuncId} {xs : List Operand} {cs : List DV} {k j hv : Nat} : Mono Ws G.bxs (lendP G dst f xs cs k j hv) e := by
 unfold lendP
 intro _
 split
 ·intro _
  refine mono_seeRow fun el r ys ver hb => fun _ => ?_
  split
  ·exact mono_lendArgs _ _ fun z => fun res _ => mono_oneRes hd _ _
  ·trivial
 ·trivial
theorem mono_thawK {G : Ctx} {i lo : Nat} : ∀ (ks : List Nat) (cs : List DV) {e : Env} {c : List DV → Prog}, (∀ cs' e', e' (.box i) = e (.box i) → Mono Ws G.bxs (c cs') e') → Mono Ws G.bxs (thawK G i lo ks cs c) e
 | [], _, _, _, h => h _ _ rfl
 | k :: ks, cs, e, c, h => by
  simp only [thawK, Mono]
  split
  ·rename_i el r xs hv ver hb
   intro hc
   simp only [Bool.and_eq_true] at hc
   refine ⟨.inr ⟨by simpa using hc.2.1, by rw [hb]; simp only [verOf]; omega, fun hlt => by have := lk_ge i (lo + k); omega⟩, mono_thawK ks _ fun cs' e' he => h _ _ ?_⟩
   rw [he]
   have : ¬ i = lk i (lo + k) := fun hh => lk_ne i _ hh.symm
   simp [Env.set, this]
  ·rename_i el r xs hv ver ii off e2 r2 ys hb
   split
   ·intro hc
    simp only [Bool.and_eq_true] at hc
    refine ⟨.inr ⟨by simpa using hc.2.1, by rw [hb]; simp only [verOf]; omega, fun hlt => by have := lk_ge i (lo + k); omega⟩, mono_thawK ks _ fun cs' e' he => h _ _ ?_⟩
    rw [he]
    have : ¬ i = lk i (lo + k) := fun hh => lk_ne i _ hh.symm
    simp [Env.set, this]
   ·trivial
  ·trivial
theorem row_mono (G : Ctx) (o : Oper) (e : Env) : Mono (opWrites G o) G.bxs (rowP G o) e := by
 have plain : Mono (opWrites G o) G.bxs (opV G o) e := op_monoV G o e
 have hd : ∀ d, o.dst = some d → d ∈ opWrites G o := fun d h => by simp [opWrites, h]
 have hp : ∀ v e, Mono (opWrites G o) G.bxs (put o.dst v .done) e := fun v e => mono_put hd mono_done
 have hR : ∀ d, isRowDst G o.dst = some d → d ∈ opWrites G o := fun d h => hd d (isRowDst_some h)
 unfold rowP
 split
 ·split
  ·exact plain
  ·cases isBare G o.dst <;> simp only [cond_true, cond_false]
   ·split
    ·intro _
     exact mono_buildH _ _ _ fun _ _ => hp _ _
    ·trivial
   ·exact plain
 ·cases isFrz G o.dst <;> simp only [cond_true, cond_false]
  ·split
   ·rename_i hdst
    refine mono_getV fun v => ?_
    split
    ·exact mono_boxH hd (hd _ hdst)
    ·exact plain
   ·exact plain
  ·unfold boxF
   split
   ·rename_i d ty hdst _
    exact mono_getD fun y => mono_freeK (mono_newBox hd hdst) _ _
   ·trivial
 ·split
  ·rename_i d _ hdst
   cases isBare G o.dst <;> simp only [cond_true, cond_false]
   ·split
    ·exact mono_boxH hd (hd _ hdst)
    ·trivial
   ·exact plain
  ·exact plain
 ·split
  ·exact mono_moveRow (hR _ (by assumption))
  ·cases isFrz G o.dst <;> simp only [cond_true, cond_false]
   ·exact plain
   ·refine mono_getV fun v => ?_
    split
    ·exact hp _ _
    ·exact plain
 ·split
  ·exact mono_moveRow (hR _ (by assumption))
  ·exact plain
 ·split
  ·refine mono_getInt fun _ => mono_getInt fun _ => fun _ => ?_
   have hcond : ∀ (b : Bool) (p q : Prog), Mono (opWrites G o) G.bxs p e → Mono (opWrites G o) G.bxs q e → Mono (opWrites G o) G.bxs (bif b then p else q) e := fun b p q h1 h2 => by cases b; exact h2; exact h1
   exact hcond _ _ _ (mono_nestRow (hR _ (by assumption))) (mono_putRow (hR _ (by assumption)))
  ·trivial
  ·exact plain
 ·split
  ·split
   ·split
    ·exact mono_buildRow _ _ fun _ => mono_putRow (hR _ (by assumption))
    ·trivial
   ·trivial
  ·exact plain
 ·refine mono_getV fun v => ?_
  split
  ·split
   ·refine mono_seeRow fun el r xs ver hb => fun _ => mono_getOptInt fun _ => mono_getOptInt fun _ => fun hc => ?_
    simp only [Bool.and_eq_true] at hc
    exact mono_leave hb (by simpa using hc.2) fun _ => mono_putRow (hR _ (by assumption))
   ·trivial
  ·split
   ·exact mono_getOptInt fun _ => mono_getOptInt fun _ => fun _ => hp _ _
   ·exact plain
  ·exact plain
 ·refine mono_getV fun v => ?_
  split
  ·split
   ·refine mono_seeRow fun el r xs ver hb => fun _ => mono_getInt fun _ => mono_getInt fun _ => fun hc => ?_
    simp only [Bool.and_eq_true] at hc
    exact mono_leave hb (by simpa using hc.2) fun _ => mono_putRow (hR _ (by assumption))
   ·trivial
  ·exact plain
 ·refine mono_getV fun v => ?_
  split
  ·split
   ·refine mono_seeRow fun el r xs ver hb => fun _ => fun hc => ?_
    simp only [Bool.and_eq_true] at hc
    exact mono_leave hb (by simpa using hc.2) fun _ => mono_putRow (hR _ (by assumption))
   ·trivial
  ·exact plain
 ·refine mono_getV fun v => ?_
  split
  ·rename_i vs k j hv
   cases hh : Nat.beq _ k <;> simp only [cond_true, cond_false]
   ·split <;> first | exact hp _ _ | trivial
   ·exact hp _ _
  ·exact plain
 ·refine mono_getV fun v => ?_
  split
  ·simp only [Mono]
   split
   ·exact fun _ => mono_getInt fun _ => fun _ => hp _ _
   ·exact mono_getInt fun _ => mono_seeRow fun _ _ _ _ _ => fun _ _ => hp _ _
  ·simp only [Mono]
   split
   ·exact fun _ => mono_getInt fun _ => fun _ => hp _ _
   ·exact mono_getInt fun _ => mono_seeSub fun _ _ _ _ _ _ _ => fun _ _ => hp _ _
  ·exact plain
 ·refine mono_getV fun v => ?_
  split
  ·split
   ·split
    ·simp only [Mono]
     split
     ·exact fun _ => hp _ _
     ·exact fun _ => mono_seeRow fun _ _ _ _ _ => hp _ _
    ·trivial
   ·trivial
  ·exact plain
 ·refine mono_getV fun v => ?_
  split
  ·exact mono_seeRow fun _ _ _ _ _ => hp _ _
  ·exact plain
 ·refine mono_getV fun v => ?_
  split
  ·split
   ·intro _
    simp only [Mono]
    split
    ·exact fun _ => hp _ _
    ·refine mono_seeRow fun _ _ _ _ _ => ?_
     split
     ·exact fun _ => hp _ _
     ·exact fun _ => hp _ _
   ·trivial
  ·rename_i i lo
   simp only [Mono]
   split
   ·rename_i B cs ver hb
    split
    ·cases cellLnk cs lo <;> simp only [cond_true, cond_false]
     ·exact plain
     ·intro _
      simp only [Mono]
      split
      ·exact fun _ => hp _ _
      ·simp only [Mono]
       split
       ·exact fun _ => hp _ _
       ·trivial
    ·split
     ·cases isLend G o.dst <;> simp only [cond_true, cond_false]
      ·exact plain
      ·exact mono_loadH hd
     ·intro hc
      refine mono_thawK _ _ fun cs' e' he => ?_
      have hb' : e' (.box i) = .box B cs ver := he.trans hb
      exact ⟨mset' (by simpa using hc) (by rw [hb']; rfl) rfl (by rw [hb']; simp only [verOf]; omega) (by rw [hb']; rfl), op_monoV G o _⟩
     ·exact plain
    ·exact plain
   ·exact plain
  ·split
   ·simp only [Mono]
    split
    ·exact fun _ => hp _ _
    ·exact fun _ => mono_seeSub fun _ _ _ _ _ _ _ => fun _ => hp _ _
   ·trivial
  ·exact plain
 ·refine mono_getV fun v => ?_
  split
  ·split
   ·refine fun _ => mono_getV fun w => ?_
    split
    ·simp only [Mono]
     split
     ·split
      ·exact mono_moveIn
      ·exact mono_holeIn
     ·trivial
    ·refine mono_getD fun _ => mono_seeRow fun el r xs ver hb => fun hc => ?_
     simp only [Bool.and_eq_true] at hc
     split
     ·exact ⟨mset' (by simpa using hc.1.2) (by rw [hb]; rfl) rfl (by rw [hb]; simp only [verOf]; omega) (by rw [hb]; rfl), trivial⟩
     ·trivial
   ·trivial
  ·rename_i i lo
   simp only [Mono]
   split
   ·rename_i B cs ver hb
    refine mono_getV fun w => ?_
    split
    ·cases cellLnk cs lo <;> simp only [cond_true, cond_false]
     ·split
      ·exact fun _ => mono_storeF hb
      ·exact plain
     ·split
      ·exact fun _ => mono_storeK
      ·trivial
    ·split
     ·exact fun _ => mono_storeF hb
     ·trivial
    ·split
     ·exact fun _ => mono_storeN hb
     ·trivial
    ·exact plain
   ·exact plain
  ·split
   ·intro _
    simp only [Mono]
    split
    ·rename_i hb
     refine mono_getD fun _ => fun hc => ?_
     simp only [Bool.and_eq_true] at hc
     have hq := Nat.eq_of_beq_eq_true hc.1
     have hq2 := Nat.eq_of_beq_eq_true hc.2.1
     subst hq; subst hq2
     split
     ·exact ⟨mset' (by simpa using hc.2.2.2.2.2.2.2) (by rw [hb]; rfl) rfl (by rw [hb]; simp only [verOf]; omega) (by rw [hb]; rfl), trivial⟩
     ·trivial
    ·refine mono_getD fun _ => mono_seeSub fun el r xs e2 r2 y hb => fun hc => ?_
     simp only [Bool.and_eq_true] at hc
     split
     ·split
      ·exact ⟨mset' (by simpa using hc.2) (by rw [hb]; rfl) rfl (by rw [hb]; simp only [verOf]; omega) (by rw [hb]; rfl), trivial⟩
      ·trivial
     ·trivial
   ·trivial
  ·exact plain
 ·split
  ·split
   ·refine mono_getV fun v => ?_
    split
    ·exact mono_seeRow fun _ _ _ _ _ => fun _ => hp _ _
    ·exact plain
   ·trivial
  ·split
   ·refine mono_getV fun v => ?_
    split
    ·split
     ·refine fun _ => mono_seeRow fun el r xs ver hb => fun _ => mono_getD fun _ => fun hc => ?_
      simp only [Bool.and_eq_true] at hc
      exact mono_leave hb (by simpa using hc.2) fun _ => mono_putRow (hR _ (by assumption))
     ·trivial
    ·split
     ·exact mono_getInt fun _ => fun _ => mono_putRow (hR _ (by assumption))
     ·exact plain
    ·exact plain
   ·trivial
  ·split
   ·refine mono_getV fun v => ?_
    split
    ·exact mono_lendP hd
    ·exact plain
   ·exact plain
  ·split
   ·split
    ·refine mono_getV fun v => ?_
     split
     ·exact hp _ _
     ·trivial
    ·trivial
   ·trivial
  ·exact plain
 ·exact map_mono G o e
 ·exact map_mono G o e
 ·exact map_mono G o e
 ·exact map_mono G o e
 ·exact map_mono G o e
 ·exact map_mono G o e
 ·exact plain
theorem mono_peekP {G : Ctx} {o o2 : Oper} (hd : ∀ d, o.dst = some d → d ∈ Ws) (hd2 : ∀ d, o2.dst = some d → d ∈ Ws) : Mono Ws G.bxs (peekP G o o2) e := by
 unfold peekP
 split
 ·rename_i hdst
  split
  ·intro _
   refine mono_getV fun v => ?_
   split
   ·refine mono_seeRow fun el r xs ver hb => fun _ => mono_getD fun ys => fun hc => ?_
    simp only [Bool.and_eq_true] at hc
    split
    ·intro _
     split
     ·intro w _
      exact ⟨mset' (by simpa using hc.2.1) (by rw [hb]; rfl) rfl (by rw [hb]; simp only [verOf]; omega) (by rw [hb]; rfl), hd _ hdst, mono_put hd2 mono_done⟩
     ·trivial
    ·trivial
   ·trivial
  ·trivial
 ·trivial
theorem op_mono (G : Ctx) (o : Oper) (e : Env) : Mono (opWrites G o) G.bxs (opP G o) e :=
 mono_thawP (row_mono G o) _ fun s hs => by simp only [opWrites, List.mem_append]; exact .inl hs
end
end Go.PM
