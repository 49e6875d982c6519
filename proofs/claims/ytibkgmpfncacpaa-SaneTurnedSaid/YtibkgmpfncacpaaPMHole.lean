/- PM: a row of which one cell has the header of a row of its own, sound. -/
import Derived.Test.YtibkgmpfncacpaaPMRowA
namespace Go.PM
open Go
section
variable {P : Program} {G : Ctx} {w0 : World} {T : Nat → Prop} {f0 : F0} {n : Nat} {e e' : Env} {a : Act} {W : World} {g : Gh} {o : Oper} {K : Act → World → Prop} {Q : Exit → Act → World → Prop}
theorem raw_write (P : Program) {W : World} {b : Nat} {cur : Array Value} {el : TypeId} (k4 : RowBlk W b cur el) {p : Nat} {us : List Value} (hp : p + us.length ≤ cur.size) (h1 : ∀ u ∈ us, u.oneCell' = true) :
  ∃ W' nc, (storeCells ⟨b, p, none⟩ us).run P W = .ok () W' ∧ W'.heap.size = W.heap.size ∧ W'.os = W.os ∧ W'.tape = W.tape ∧ W'.output = W.output ∧ (∀ k, k ≠ b → W'.heap[k]? = W.heap[k]?) ∧ RowBlk W' b nc el ∧ nc.size = cur.size ∧
   (∀ (o : Nat) u, us[o]? = some u → nc[p + o]? = some u) ∧ ∀ (q : Nat) u, (q < p ∨ p + us.length ≤ q) → cur[q]? = some u → nc[q]? = some u := by
 obtain ⟨fr, k4h, k4f⟩ := id k4
 have hrun := run_storeRow P b p el fr us 0 cur W k4h k4f (by omega) h1
 simp only [Nat.add_zero] at hrun
 generalize hnc : (cur.toList.take p ++ us ++ cur.toList.drop (p + us.length)).toArray = nc at hrun
 have hncs : nc.size = cur.size := by
  rw [← hnc]
  simp only [List.size_toArray, List.length_append, List.length_take, List.length_drop, Array.length_toList]
  omega
 have hnj : ∀ (q : Nat) u, (cur.toList.take p ++ us ++ cur.toList.drop (p + us.length))[q]? = some u → nc[q]? = some u := fun q u hu => by rw [← hnc]; simpa using hu
 refine ⟨W.setRow b nc, nc, hrun, by simp [World.setRow], rfl, rfl, rfl, fun k hk => setRow_other W b k nc hk, k4.set hncs, hncs, fun o u hu => ?_, fun q u hq hu => ?_⟩
 ·have ho : o < us.length := (List.getElem?_eq_some_iff.1 hu).1
  refine hnj _ _ (get_put (by simp; omega) (.inl ⟨by omega, by omega, ?_⟩))
  rw [← hu]; congr 1; omega
 ·exact hnj _ _ (get_put (by simp; omega) (.inr ⟨hq, by simpa using hu⟩))
theorem St.unrow (h : St w0 T f0 n e a W g) {j hv ver : Nat} {el : TypeId} {r : Ty} {xs : List r.D} (hb : e (.box j) = .row el r xs hv ver) : St w0 T f0 n (e.set (.box j) (.lrow r xs.length hv ver)) a W g :=
 h.setBox' trivial (by
  rw [hb]
  exact ⟨fun hh => (by cases hh), fun b hv v hh => hh, fun b hv i o sz v hh => hh, fun _ _ _ _ _ _ hh => ⟨hh.1, fun he => (hh.2 he).1⟩, fun _ _ _ _ _ _ _ _ _ hh => ⟨hh.1, fun he => (hh.2 he).1⟩⟩) (.row (fun _ => rfl) (by rw [hb]; rfl))
theorem St.unhole (h : St w0 T f0 n e a W g) {j hv ver i o : Nat} {el e2 : TypeId} {r r2 : Ty} {xs : List r.D} {ys : List r2.D} (hb : e (.box j) = .hole el r xs hv ver i o e2 r2 ys) : St w0 T f0 n (e.set (.box j) (.lrow r xs.length hv ver)) a W g :=
 h.setBox' trivial (by
  rw [hb]
  exact ⟨fun hh => (by cases hh), fun b hv v hh => hh, fun b hv i o sz v hh => hh, fun _ _ _ _ _ _ hh => ⟨hh.1, fun he => (hh.2 he).1⟩, fun _ _ _ _ _ _ _ _ _ hh => ⟨hh.1, fun he => (hh.2 he).1⟩⟩) (.row (fun _ => rfl) (by rw [hb]; rfl))
theorem St.rerow {j hv ver nn : Nat} {r : Ty} (hl' : St w0 T f0 n (e.set (.box j) (.lrow r nn hv ver)) a W g) {X : Lab} (hX : X = .box j ∨ ∃ k, X = .cell j k) {blk : Nat} (hblk : g.own blk = some X) (hnf : ∀ o, ¬ g.fix blk o) {W' : World}
  (size : W'.heap.size = W.heap.size) (os : W'.os = W.os) (tape : W'.tape = W.tape) (output : W'.output = W.output) (hoth : ∀ k, k ≠ blk → W'.heap[k]? = W.heap[k]?) {B : Bx} (hB : j < 1000000 ∨ 2000000 ≤ j ∨ B = g.bx j) (hBh : B.h = (g.bx j).h) {pv : PV} (hnl : ∀ k, pv.lnkAt k = false)
  (c1 : ∀ x v, HOk (.lrow r nn hv ver) (g.bx j) x v → HOk pv B x v) (c2 : ∀ x i o sz v, RpOk (.lrow r nn hv ver) (g.bx j) x i o sz v → RpOk pv B x i o sz v)
  (c3 : ∀ x y i o v, ShOk (.lrow r nn hv ver) (g.bx j) x y i o v → ShOk pv B x y i o v) (c4 : ∀ x y i o i2 o2 sz2 v, SpOk (.lrow r nn hv ver) (g.bx j) x y i o i2 o2 sz2 v → SpOk pv B x y i o i2 o2 sz2 v)
  (hbr : BRep (g.at j B) W' j pv) : ∃ g', g'.fix = g.fix ∧ St w0 T f0 n (e.set (.box j) pv) a W' g' := by
 have hmv : Move (fun x => x = X) W W' g g := by
  refine ⟨fun b' o hf => ⟨hf, fun u hu => ?_⟩, fun b' q hq hne => ?_⟩
  ·have hbg : b' ≠ blk := fun heq => by subst heq; exact hnf o hf
   rw [World.cell?_of_block (w := W) (hoth b' hbg)]; exact hu
  ·have hbg : b' ≠ blk := fun heq => by subst heq; rw [hblk] at hq; injection hq with hq; exact hne hq.symm
   exact ⟨hq, hoth b' hbg, fun o ho => ho⟩
 have hfree : Free (e.set (.box j) (.lrow r nn hv ver)) X := by
  rcases hX with rfl | ⟨k, rfl⟩
  ·exact free_box (fun _ _ _ hh => by cases hh) rfl
  ·refine ⟨fun t ht => (by cases ht), fun i' T' cs' v' hbx => ⟨by simp, fun jj d hj _ => ?_⟩, fun i' hbx => ⟨by simp, fun k' hk => ?_⟩⟩
   ·injection hj with hj _
    subst hj
    simp [Env.set] at hbx
   ·injection hk with hk _
    subst hk
    simp [Env.set, PV.isR] at hbx
 have h' : St w0 T f0 n (e.set (.box j) (.lrow r nn hv ver)) a W' g := by
  refine hl'.move hmv (fun q hq => by rw [hq]; exact hfree) (fun _ _ => rfl) os tape output (by omega) (fun b' hb' ht => hoth b' (fun heq => ?_)) (fun b' q hq => ?_) (fun b' o hf => ?_) (fun b' o _ _ hf => hf)
  ·subst heq; exact ht ((hl'.ownNew _ _ hblk).2 hb')
  ·have := hl'.ownNew b' q hq; exact ⟨by omega, this.2⟩
  ·have := hl'.fixLt b' o hf; omega
 have hfin := h'.rebox (d := j) (pv := pv) (B := B) hB hnl (fun _ i k hk hl => by have := h'.lnks i k hl (by rw [hk]; simp [Env.set, PV.there]); rw [this, hk, hBh]) (by simp [Env.set, PV.isCell])
  (fun x v hx => by simp only [Env.set, if_true] at hx; exact c1 _ _ hx)
  (fun x i' o sz v hx => by simp only [Env.set, if_true] at hx; exact c2 _ _ _ _ _ hx)
  (fun _ _ _ _ _ hx => by simp only [Env.set, if_true] at hx; exact c3 _ _ _ _ _ hx)
  (fun _ _ _ _ _ _ _ _ hx => by simp only [Env.set, if_true] at hx; exact c4 _ _ _ _ _ _ _ _ hx)
  hbr
 have : (e.set (.box j) (.lrow r nn hv ver)).set (.box j) pv = e.set (.box j) pv := by
  funext p; simp only [Env.set]; split <;> rfl
 rw [this] at hfin
 exact ⟨g.at j B, rfl, hfin⟩
theorem St.rehole {j hv ver nn i o : Nat} {r r2 : Ty} {el e2 : TypeId} {xs : List r.D} {ys : List r2.D} (hl' : St w0 T f0 n (e.set (.box j) (.lrow r nn hv ver)) a W g) (hn : nn = xs.length) {X : Lab} (hX : X = .box j ∨ ∃ k, X = .cell j k) {blk : Nat} (hblk : g.own blk = some X) (hnf : ∀ o, ¬ g.fix blk o) {W' : World}
  (size : W'.heap.size = W.heap.size) (os : W'.os = W.os) (tape : W'.tape = W.tape) (output : W'.output = W.output) (hoth : ∀ k, k ≠ blk → W'.heap[k]? = W.heap[k]?) {B : Bx} (hB : j < 1000000 ∨ 2000000 ≤ j ∨ B = g.bx j) (hBh : B.h = (g.bx j).h)
  (hbr : HoleAt g.fix g.own W' j B el r xs i o e2 r2 ys) : ∃ g', g'.fix = g.fix ∧ St w0 T f0 n (e.set (.box j) (.hole el r xs hv (ver + 1) i o e2 r2 ys)) a W' g' := by
 subst hn
 exact hl'.rerow hX hblk hnf size os tape output hoth hB hBh (pv := .hole el r xs hv (ver + 1) i o e2 r2 ys) (fun _ => rfl)
  (fun x v hx => ⟨hx.1, fun he => by rw [hBh]; exact hx.2 he⟩)
  (fun x i' o' sz v hx => by have hx : x ≤ hv ∧ (x = hv → _) := hx; exact ⟨hx.1, fun he => by rw [hBh]; exact hx.2 he⟩)
  (fun x y i' o' v hx => ⟨hx.1, fun he => ⟨by have := hx.2 he; omega, fun he2 => absurd (hx.2 he) (by omega)⟩⟩)
  (fun x y i' o' i2 o2 sz2 v hx => ⟨hx.1, fun he => ⟨by have := hx.2 he; omega, fun he2 => absurd (hx.2 he) (by omega)⟩⟩)
  (by simp only [BRep, Gh.at, if_true]; exact hbr)
theorem sound_holeIn {t : TypeId} {x y : Operand} {j hv i off sz s hs : Nat} {ty : Ty} (hG : CtxTys P G) (ho : o.op = .store t x y) (hty : look t G.ty = some ty) (h : St w0 T f0 G.n e a W g) (hp : PtrOk e g (.rptr j hv i off sz) (a.eval x)) (hq : PtrOk e g (.hdr s hs) (a.eval y)) (hdst : o.dst = none)
  (hr : (holeIn G ty j hv i off s hs).run e some = some e') (hK : ∀ a' W' g', St w0 T f0 G.n e' a' W' g' → K a' W') : o.wp P a W K Q := by
 unfold holeIn at hr
 obtain ⟨el, r, xs, ver, hb, hr2⟩ := seeRow_run hr
 split at hr2
 ·rename_i e2 r2 y0 tip hsub
  obtain ⟨hc, hr3⟩ := chk_run hr2
  simp only [Bool.and_eq_true, Bool.not_eq_true'] at hc
  obtain ⟨hty2, hpl2, hpl, hne, hge, -, -⟩ := hc
  obtain ⟨el', r', ys, ver2, hbs, hr4⟩ := seeRow_run hr3
  have hty2 := eqTy_iff.1 hty2
  subst hty2
  have hge := Nat.le_of_ble_eq_true hge
  have hjs : j ≠ s := fun he => by subst he; rw [Nat.beq_refl] at hne; cases hne
  split at hr4
  ·rename_i yv hyv
   have hrow2 : PV.row el' r' ys hs ver2 = .row e2 r2 yv hs ver2 := as_row' hyv hs ver2
   rw [hrow2] at hbs
   simp only [Prog.run, Option.some.injEq] at hr4
   rw [nth_at] at hsub
   have hoff := sub_lt hsub
   obtain ⟨hval, -⟩ := hdr_row h hq hbs
   obtain ⟨g1st, grow, gfree⟩ := h.leave hbs
   obtain ⟨g1, f1, f2, h3, hrow3, hkeep⟩ := g1st.relabelRow (.cell j (i * r.sz + off)) gfree grow
   have hb1 : (e.set (.box s) (.gone hs (ver2 + 1))) (.box j) = .row el r xs hv ver := by simp [Env.set, hjs, hb]
   have hp1 : PtrOk (e.set (.box s) (.gone hs (ver2 + 1))) g1 (.rptr j hv i off sz) (a.eval x) := by
    show RpOk ((e.set (.box s) (.gone hs (ver2 + 1))) (.box j)) (g1.bx j) hv i off sz _
    rw [hb1, f2, ← hb]
    exact hp
   obtain ⟨h1, h2, b, o0, cur, cs, c, k1, k0, k3, k4, k5, k6, k7, k8, k9, k10, k11⟩ := rptr_row h3 hp1 hb1
   subst h1
   have hone : (a.eval y).oneCell' = true := by
    obtain ⟨A, c', q1, -⟩ := grow
    rw [hval, q1]; rfl
   have hin : i * r.sz + r.sz ≤ xs.length * r.sz := by rw [← Nat.succ_mul]; exact Nat.mul_le_mul_right _ h2
   have hxc : xs.length * r.sz ≤ c * r.sz := Nat.mul_le_mul_right _ k0.1
   obtain ⟨W', nc, q4, q5, q6, q7, q8, q9, q10, q11, q12, q13⟩ := raw_write P k4 (p := o0 + i * r.sz + off) (us := [a.eval y]) (by simp only [List.length_cons, List.length_nil]; omega) (fun u hu => by rw [List.mem_singleton] at hu; subst hu; exact hone)
   have hmv : Move (fun x => x = .box j) W W' g1 g1 := by
    refine ⟨fun b' o hf => ⟨hf, fun u hu => ?_⟩, fun b' q hq hne => ?_⟩
    ·have hbg : b' ≠ b := fun heq => by subst heq; exact k6 o hf
     rw [World.cell?_of_block (w := W) (q9 b' hbg)]; exact hu
    ·have hbg : b' ≠ b := fun heq => by subst heq; rw [k5] at hq; injection hq with hq; exact hne hq.symm
     exact ⟨hq, q9 b' hbg, fun o ho => ho⟩
   obtain ⟨g', -, hfin⟩ := (h3.unrow hb1).rehole (i := i) (o := off) (e2 := e2) (ys := yv) (el := el) (xs := xs) rfl (.inl rfl) k5 k6 q5 q6 q7 q8 q9 (B := { g1.bx j with sub := fun q => if q = i * r.sz + off then a.eval y else (g1.bx j).sub q }) (.inr (.inl hge)) rfl
    ⟨⟨b, o0, c, nc, cs, k1, k0, q10, k5, k6, by rw [q11]; exact k9, k10.mono hmv.fixed, fun k u hu hk => q13 _ _ (by simp only [List.length_cons, List.length_nil]; omega) (k11 k u hu), by
      simp only [if_true]
      rw [← Nat.add_assoc]
      simpa using q12 0 (a.eval y) rfl⟩, h2, hoff, ⟨_, hsub, rfl⟩, by
     simp only [if_true]
     have := hrow3.move hmv (by simp)
     rw [hval]
     exact this⟩
   rw [← hr4] at hK
   have htk := hG _ _ hty
   refine wp_skip' (W' := W') ?_ ?_
   ·have hsz : (a.eval y).cells = #[a.eval y] := by
     obtain ⟨A, c'', q1, -⟩ := grow
     rw [hval, q1]; rfl
    simp [execOp, ho, k3, Instr.storeAt, Instr.sureAddr, storeVar, htk.run_size, hsz, Ty.sz, q4]
   ·rw [hdst]; exact hK _ _ _ hfin
  ·simp [Prog.run] at hr4
 ·simp [Prog.run] at hr2
theorem hole_at (h : St w0 T f0 n e a W g) {j hv ver i o : Nat} {el e2 : TypeId} {r r2 : Ty} {xs : List r.D} {ys : List r2.D} (hb : e (.box j) = .hole el r xs hv ver i o e2 r2 ys) : HoleAt g.fix g.own W j (g.bx j) el r xs i o e2 r2 ys := by
 have hbr := h.boxes j
 rw [hb] at hbr
 exact hbr
theorem sound_holeIndex {t : TypeId} {x i : Operand} {j hv ver i0 o0 : Nat} {el e2 : TypeId} {r r2 : Ty} {xs : List r.D} {ys : List r2.D} {m : Int} {kd : IntKind} (hG : CtxTys P G) (ho : o.op = .indexAddr t x i) (h : St w0 T f0 G.n e a W g) (hd : dstOk G.n o.dst = true) (hp : PtrOk e g (.hdr j hv) (a.eval x)) (hi : a.eval i = .int kd m)
  (hb : e (.box j) = .hole el r xs hv ver i0 o0 e2 r2 ys) (ht : (match look t G.ty with | some T => eqTy T (.sl el r) | none => false) = true)
  (hr : (Prog.chk (decide (0 ≤ m) && decide (m < xs.length)) (put o.dst (.rptr j hv m.toNat 0 r.sz) .done)).run e some = some e') (hK : ∀ a' W' g', St w0 T f0 G.n e' a' W' g' → K a' W') : o.wp P a W K Q := by
 obtain ⟨hc, hr4⟩ := chk_run hr
 have htk := hG _ _ (eqTy_look ht)
 simp only [Bool.and_eq_true, decide_eq_true_eq] at hc
 obtain ⟨h0, h1⟩ := hc
 obtain ⟨m, rfl⟩ := Int.eq_ofNat_of_zero_le h0
 have hm : m < xs.length := by omega
 obtain ⟨⟨b, off, c, cur, cs, k1, -⟩, -⟩ := hole_at h hb
 have hval : a.eval x = (g.bx j).h := by
  have hp' : HOk (e (.box j)) (g.bx j) hv (a.eval x) := hp
  rw [hb] at hp'
  exact hp'.2 rfl
 rw [k1] at hval
 have hu := htk.sl_und
 have hel : P.elem t = el := by simp [Program.elem, hu]
 simp only [Int.toNat_natCast] at hr4
 rw [put_run hr4] at hK
 refine wp_value (v := .pointer (some ((⟨b, off, none⟩ : Addr).add (m * r.sz)))) ?_ (hK _ _ _ (h.putDst hd (pv := .rptr j hv m 0 r.sz) (fun _ _ => trivial) ?_))
 ·simp only [execOp, ho, hval, hi, Sem.run_bind, Sem.run_pure]
  rw [run_indexAt_slice W t ⟨b, off, none⟩ xs.length c kd m (by rw [hel]; exact hu), if_pos ⟨h0, h1⟩, hel, htk.sl_row.run_size]
  simp
 ·show RpOk (e (.box j)) (g.bx j) hv m 0 r.sz _
  rw [hb]
  exact ⟨Nat.le_refl _, fun _ => ⟨rfl, hm, b, off, c, k1, by rw [add_none rfl, Nat.add_zero]⟩⟩
theorem rptr_hole {j hv i off sz ver i0 o0 : Nat} {el e2 : TypeId} {r r2 : Ty} {xs : List r.D} {ys : List r2.D} {v : Value} (hp : PtrOk e g (.rptr j hv i off sz) v) (hb : e (.box j) = .hole el r xs hv ver i0 o0 e2 r2 ys) :
  sz = r.sz ∧ i < xs.length ∧ ∃ b o c, (g.bx j).h = .slice (some ⟨b, o, none⟩) xs.length c ∧ v = .pointer (some ⟨b, o + i * sz + off, none⟩) := by
 have hp' : RpOk (e (.box j)) (g.bx j) hv i off sz v := hp
 rw [hb] at hp'
 exact hp'.2 rfl
theorem sound_holeField {t : TypeId} {x : Operand} {f j hv i off sz ver i0 o0 : Nat} {el e2 : TypeId} {r r2 : Ty} {xs : List r.D} {ys : List r2.D} {ty : Ty} {fo : Nat} {ft : Ty} (hG : CtxTys P G) (ho : o.op = .fieldAddr t x f) (hty : look t G.ty = some ty) (hf : ty.fld f = some (fo, ft)) (h : St w0 T f0 G.n e a W g) (hd : dstOk G.n o.dst = true) (hp : PtrOk e g (.rptr j hv i off sz) (a.eval x))
  (hb : e (.box j) = .hole el r xs hv ver i0 o0 e2 r2 ys) (hr : (put o.dst (.rptr j hv i (off + fo) sz) .done).run e some = some e') (hK : ∀ a' W' g', St w0 T f0 G.n e' a' W' g' → K a' W') : o.wp P a W K Q := by
 obtain ⟨h1, h2, b, o0, c, k1, k3⟩ := rptr_hole hp hb
 rw [put_run hr] at hK
 refine wp_value (v := .pointer (some ⟨b, o0 + i * sz + off + fo, none⟩)) (by simp [execOp, ho, k3, run_fieldAt (hG _ _ hty) hf (ad := ⟨b, o0 + i * sz + off, none⟩) rfl]) (hK _ _ _ (h.putDst hd (pv := .rptr j hv i (off + fo) sz) (fun _ _ => trivial) ?_))
 show RpOk (e (.box j)) (g.bx j) hv i (off + fo) sz _
 rw [hb]
 exact ⟨Nat.le_refl _, fun _ => ⟨h1, h2, b, o0, c, k1, by rw [Nat.add_assoc (o0 + i * sz)]⟩⟩
theorem sound_holeHead {t : TypeId} {x : Operand} {j hv i off sz ver : Nat} {el e2 : TypeId} {r r2 : Ty} {xs : List r.D} {ys : List r2.D} (hG : CtxTys P G) (ho : o.op = .load t x) (hty : look t G.ty = some (.sl e2 r2)) (h : St w0 T f0 G.n e a W g) (hd : dstOk G.n o.dst = true) (hp : PtrOk e g (.rptr j hv i off sz) (a.eval x))
  (hb : e (.box j) = .hole el r xs hv ver i off e2 r2 ys) (hr : (put o.dst (.shdr j hv ver i off) .done).run e some = some e') (hK : ∀ a' W' g', St w0 T f0 G.n e' a' W' g' → K a' W') : o.wp P a W K Q := by
 obtain ⟨h1, h2, b, o0, c, k1, k3⟩ := rptr_hole hp hb
 subst h1
 obtain ⟨⟨b', o', c', cur, cs, m1, m2, m3, -, -, -, -, -, m8⟩, -⟩ := hole_at h hb
 rw [k1] at m1
 injection m1 with m1 _ _
 injection m1 with m1
 injection m1 with m1 m1' _
 subst m1; subst m1'
 have hcell : W.cell? ⟨b, o0 + i * r.sz + off, none⟩ = some ((g.bx j).sub (i * r.sz + off)) := by rw [m3.cell, Nat.add_assoc]; exact m8
 have htk := hG _ _ hty
 rw [put_run hr] at hK
 refine wp_value (v := (g.bx j).sub (i * r.sz + off)) ?_ (hK _ _ _ (h.putDst hd (pv := .shdr j hv ver i off) (fun _ _ => trivial) ?_))
 ·simp only [execOp, ho, k3, Instr.loadAt, Instr.sureAddr, Sem.run_bind, Sem.run_pure, Result.andThen_ok, loadVar, htk.run_isAgg, Ty.isAgg, Bool.false_eq_true, if_false, run_load, hcell]
 ·show ShOk _ _ _ _ _ _ _
  rw [hb]
  exact ⟨Nat.le_refl _, fun _ => ⟨Nat.le_refl _, fun _ _ _ => rfl⟩⟩
theorem sound_holeSub {t : TypeId} {x i : Operand} {j hv ver ii off : Nat} {el e2 : TypeId} {r r2 : Ty} {xs : List r.D} {y : List r2.D} {m : Int} {kd : IntKind} (hG : CtxTys P G) (ho : o.op = .indexAddr t x i) (h : St w0 T f0 G.n e a W g) (hd : dstOk G.n o.dst = true) (hp : PtrOk e g (.shdr j hv ver ii off) (a.eval x)) (hi : a.eval i = .int kd m)
  (hb : e (.box j) = .hole el r xs hv ver ii off e2 r2 y) (ht : (match look t G.ty with | some T => eqTy T (.sl e2 r2) | none => false) = true)
  (hr : (Prog.chk (decide (0 ≤ m) && decide (m < y.length)) (put o.dst (.sptr j hv ver ii off m.toNat 0 r2.sz) .done)).run e some = some e') (hK : ∀ a' W' g', St w0 T f0 G.n e' a' W' g' → K a' W') : o.wp P a W K Q := by
 obtain ⟨hc, hr4⟩ := chk_run hr
 have htk := hG _ _ (eqTy_look ht)
 simp only [Bool.and_eq_true, decide_eq_true_eq] at hc
 obtain ⟨h0, h1⟩ := hc
 obtain ⟨m, rfl⟩ := Int.eq_ofNat_of_zero_le h0
 have hm : m < y.length := by omega
 have hval : a.eval x = (g.bx j).sub (ii * r.sz + off) := by
  have hp' : ShOk (e (.box j)) (g.bx j) hv ver ii off (a.eval x) := hp
  rw [hb] at hp'
  exact (hp'.2 rfl).2 rfl rfl rfl
 obtain ⟨-, -, -, -, A, c, q5, q6, q7⟩ := hole_at h hb
 rw [q5] at hval
 rcases q7 with ⟨rfl, hc0⟩ | ⟨b, off2, cur, cs, rfl, -⟩
 ·exact absurd q6.1 (by omega)
 have hu := htk.sl_und
 have hel : P.elem t = e2 := by simp [Program.elem, hu]
 simp only [Int.toNat_natCast] at hr4
 rw [put_run hr4] at hK
 refine wp_value (v := .pointer (some ((⟨b, off2, none⟩ : Addr).add (m * r2.sz)))) ?_ (hK _ _ _ (h.putDst hd (pv := .sptr j hv ver ii off m 0 r2.sz) (fun _ _ => trivial) ?_))
 ·simp only [execOp, ho, hval, hi, Sem.run_bind, Sem.run_pure]
  rw [run_indexAt_slice W t ⟨b, off2, none⟩ y.length c kd m (by rw [hel]; exact hu), if_pos ⟨h0, h1⟩, hel, htk.sl_row.run_size]
  simp
 ·show SpOk _ _ _ _ _ _ _ _ _ _
  rw [hb]
  exact ⟨Nat.le_refl _, fun _ => ⟨Nat.le_refl _, fun _ _ _ => ⟨b, off2, y.length, c, q5, hm, by rw [add_none rfl, Nat.add_zero]⟩⟩⟩
theorem sptr_hole (h : St w0 T f0 n e a W g) {j hv ver i off i2 off2 sz2 : Nat} {el e2 : TypeId} {r r2 : Ty} {xs : List r.D} {y : List r2.D} {v : Value} (hp : PtrOk e g (.sptr j hv ver i off i2 off2 sz2) v) (hb : e (.box j) = .hole el r xs hv ver i off e2 r2 y) :
  i2 < y.length ∧ ∃ b o c cur cs, (g.bx j).sub (i * r.sz + off) = .slice (some ⟨b, o, none⟩) y.length c ∧ v = .pointer (some ⟨b, o + i2 * sz2 + off2, none⟩) ∧ RowBlk W b cur e2 ∧ Rows g.fix W r2 y cs ∧ ∀ (k : Nat) u, cs[k]? = some u → cur[o + k]? = some u := by
 have hp' : SpOk (e (.box j)) (g.bx j) hv ver i off i2 off2 sz2 v := hp
 rw [hb] at hp'
 obtain ⟨blk, o, m, c, h2, h3, h4⟩ := (hp'.2 rfl).2 rfl rfl rfl
 obtain ⟨-, -, -, -, A, c2, q5, q6, q7⟩ := hole_at h hb
 rw [h2] at q5
 injection q5 with q5 q5' q5''
 subst q5; subst q5'; subst q5''
 rcases q7 with ⟨q7, _⟩ | ⟨b, off3, cur, cs, q7, m2, m3, m4, m5, m6, m7, m8, m9⟩
 ·cases q7
 ·injection q7 with q7
  injection q7 with q7 q7' _
  subst q7; subst q7'
  exact ⟨h3, blk, o, c, cur, cs, h2, h4, m2, m8, m9⟩
theorem sound_holeLoad {t : TypeId} {x : Operand} {j hv ver i off i2 off2 sz2 : Nat} {el e2 : TypeId} {r r2 : Ty} {xs : List r.D} {y : List r2.D} {ty : Ty} (hG : CtxTys P G) (ho : o.op = .load t x) (hty : look t G.ty = some ty) (h : St w0 T f0 G.n e a W g) (hd : dstOk G.n o.dst = true) (hp : PtrOk e g (.sptr j hv ver i off i2 off2 sz2) (a.eval x))
  (hb : e (.box j) = .hole el r xs hv ver i off e2 r2 y) (hz : 0 < ty.sz) (hle : off2 + ty.sz ≤ r2.sz) (hsz : sz2 = r2.sz)
  (hr : (put o.dst (loadAs ty (r2.split (y.getD i2 r2.zero)) off2) .done).run e some = some e') (hK : ∀ a' W' g', St w0 T f0 G.n e' a' W' g' → K a' W') : o.wp P a W K Q := by
 obtain ⟨h2, b, o0, c, cur, cs, k1, k3, k4, k10, k11⟩ := sptr_hole h hp hb
 subst hsz
 have hrep := elem_cells k10 h2
 have hcs := Cells.split _ _ _ hrep
 obtain ⟨v, hload, hdv⟩ := load_cells (P := P) (hG _ _ hty) (ad := ⟨b, o0 + i2 * r2.sz + off2, none⟩) (lo := off2) rfl hcs (fun q u hu _ => by
  rw [List.getElem?_take] at hu
  split at hu
  ·rw [List.getElem?_drop] at hu
   show W.cell? ⟨b, o0 + i2 * r2.sz + off2 + q, none⟩ = some u
   rw [k4.cell]
   have := k11 _ u hu
   rw [← this]
   congr 1; omega
  ·cases hu) (by rw [hcs.len, hrep.len]; exact hle) hz
 rw [put_run hr] at hK
 exact wp_value (v := v) (by simp [execOp, ho, k3, hload]) (hK _ _ _ (h.putDat hd (hdv g rfl) loadAs_clear (loadAs_ptr e)))
theorem sound_holeStore {t : TypeId} {x y : Operand} {j hv ver i off i2 off2 sz2 : Nat} {el e2 : TypeId} {r r2 : Ty} {xs : List r.D} {ys : List r2.D} {ty : Ty} {yv : ty.D} {z : r2.D} (hG : CtxTys P G) (ho : o.op = .store t x y) (hty : look t G.ty = some ty) (h : St w0 T f0 G.n e a W g) (hp : PtrOk e g (.sptr j hv ver i off i2 off2 sz2) (a.eval x)) (hdst : o.dst = none)
  (hy : Rep g.fix W ty yv (a.eval y).cells.toList) (hb : e (.box j) = .hole el r xs hv ver i off e2 r2 ys) (hle : off2 + ty.sz ≤ r2.sz) (hsz : sz2 = r2.sz)
  (hzz : r2.build (putCells (r2.split (ys.getD i2 r2.zero)) off2 (ty.split yv)) = some (z, [])) (hK : ∀ a' W' g', St w0 T f0 G.n (e.set (.box j) (.hole el r xs hv (ver + 1) i off e2 r2 (ys.set i2 z))) a' W' g' → K a' W') : o.wp P a W K Q := by
 have htk := hG _ _ hty
 obtain ⟨h2, b, o0, c, cur, cs, k1, k3, k4, k10, k11⟩ := sptr_hole h hp hb
 subst hsz
 obtain ⟨⟨bo, oo, co, curo, cso, m1, m2, m3, m4, m5, m6, m7, m8, m9⟩, n1, n2, n3, n4⟩ := hole_at h hb
 have hyl := hy.len
 obtain ⟨b', o0', c', W', q1, q2, q3, q4, q5, q6, q7, q8, q9, -, -, q10⟩ := row_write P n4 h2 (us := (a.eval y).cells.toList) (z := z) (by rw [hyl]; exact hle) (hy.one _ _ _) (fun ci hci => by
  have hcs := Cells.split _ _ _ hci
  have hys := Cells.split _ _ _ hy
  refine Ty.build_all hzz ?_
  unfold putCells
  have e1 : off2 + (ty.split yv).length = off2 + (a.eval y).cells.toList.length := by rw [hys.len]
  rw [e1]
  exact ((hcs.take off2).append hys).append (hcs.drop _))
 rw [k1] at q1
 injection q1 with q1 _ _
 injection q1 with q1
 injection q1 with q1 q1' _
 subst q1; subst q1'
 have hmv : Move (fun x => x = .cell j (i * r.sz + off)) W W' g g := by
  refine ⟨fun b' o hf => ⟨hf, fun u hu => ?_⟩, fun b' q hq hne => ?_⟩
  ·have hbg : b' ≠ b := fun heq => by subst heq; exact q3 o hf
   rw [World.cell?_of_block (w := W) (q9 b' hbg)]; exact hu
  ·have hbg : b' ≠ b := fun heq => by subst heq; rw [q2] at hq; injection hq with hq; exact hne hq.symm
   exact ⟨hq, q9 b' hbg, fun o ho => ho⟩
 have hbo : bo ≠ b := fun he => by subst he; rw [q2] at m4; cases m4
 obtain ⟨g', -, hfin⟩ := (h.unhole hb).rehole (i := i) (o := off) (e2 := e2) (ys := ys.set i2 z) (el := el) (xs := xs) rfl (.inr ⟨_, rfl⟩) q2 q3 q5 q6 q7 q8 q9 (B := g.bx j) (.inr (.inr rfl)) rfl
  ⟨⟨bo, oo, co, curo, cso, m1, m2, m3.same (q9 bo hbo), m4, m5, m6, m7.mono hmv.fixed, m8, m9⟩, n1, n2, n3, q10⟩
 refine wp_skip' (W' := W') ?_ ?_
 ·have hcs : (a.eval y).cells.size = ty.sz := by simpa using hyl
  simp [execOp, ho, k3, Instr.storeAt, Instr.sureAddr, storeVar, htk.run_size, hcs, q4]
 ·rw [hdst]; exact hK _ _ _ hfin
theorem sound_loadKH {t : TypeId} {x : Operand} {i lo hv ver ver' i0 o0 : Nat} {B e1 e2 : TypeId} {r1 r2 : Ty} {xs : List r1.D} {ys : List r2.D} {cs : List DV} {el : TypeId} {r : Ty} (hG : CtxTys P G) (ho : o.op = .load t x) (hty : look t G.ty = some (.sl el r)) (h : St w0 T f0 G.n e a W g) (hd : dstOk G.n o.dst = true) (hdat : Dat g W (.bptr i lo) (a.eval x))
  (hb : e (.box i) = .box B cs ver) (hl : cellLnk cs lo = true) (hlo : lo < 1000) (hk : e (.box (lk i lo)) = .hole e1 r1 xs hv ver' i0 o0 e2 r2 ys) (hr : (put o.dst (.hdr (lk i lo) hv) .done).run e some = some e') (hK : ∀ a' W' g', St w0 T f0 G.n e' a' W' g' → K a' W') : o.wp P a W K Q := by
 have htk := hG _ _ hty
 have hv' : a.eval x = .pointer (some ⟨(g.bx i).b, lo, none⟩) := hdat
 have hcell := link_cell h hb hl hlo (by rw [hk]; rfl)
 have hag : (Ty.sl el r).isAgg = false := rfl
 have hrun : (Instr.loadAt t (.pointer (some ⟨(g.bx i).b, lo, none⟩))).run P W = .ok (g.bx (lk i lo)).h W := by
  simp only [Instr.loadAt, Instr.sureAddr, Sem.run_bind, Sem.run_pure, Result.andThen_ok, loadVar, htk.run_isAgg, hag, Bool.false_eq_true, if_false, run_load]
  rw [hcell]
 rw [put_run hr] at hK
 refine wp_value (v := (g.bx (lk i lo)).h) (by simp [execOp, ho, hv', hrun]) (hK _ _ _ (h.putDst hd (fun _ _ => trivial) ?_))
 show HOk (e (.box (lk i lo))) (g.bx (lk i lo)) hv _
 rw [hk]
 exact ⟨Nat.le_refl _, fun _ => rfl⟩
theorem RowAt.val {fix fix' : Nat → Nat → Prop} {own : Nat → Option Lab} {q : Lab} {v : Value} {el : TypeId} {r : Ty} {xs : List r.D} (h : RowAt fix own W q v el r xs) (hm : ∀ b o, fix b o → fix' b o) (hf : ∀ A n c, v = .slice (some A) n c → ∀ o, fix' A.block o) : Rep fix' W (.sl el r) xs [v] := by
 obtain ⟨A, c, k1, k2, k3⟩ := h
 rcases k3 with ⟨rfl, rfl⟩ | ⟨b, off, cur, cs, rfl, m2, m3, m4, m5, m6, m7, m8, m9⟩
 ·have hxe : xs = [] := List.eq_nil_of_length_eq_zero (by have := k2.1; omega)
  subst hxe
  exact ⟨none, 0, by rw [k1], k2, fun hn => absurd rfl hn⟩
 ·have hf' := hf _ _ _ k1
  rw [k1]
  exact Rep.of_rows (m8.mono fun b o hh => ⟨hm b o hh, fun _ h => h⟩) k2 fun k u hu => ⟨hf' _, by rw [m2.cell]; exact m9 _ _ hu⟩
theorem St.thawHole (h : St w0 T f0 n e a W g) {j hv ver i o : Nat} {el e2 : TypeId} {r r2 : Ty} {xs : List r.D} {ys : List r2.D} (hb : e (.box j) = .hole el r xs hv ver i o e2 r2 ys) {z : r.D} (hz : r.build (putCells (r.split (xs.getD i r.zero)) o [⟨.sl e2 r2, ys, false⟩]) = some (z, [])) :
  ∃ g', g'.bx = g.bx ∧ St w0 T f0 n (e.set (.box j) (.gone hv (ver + 1))) a W g' ∧ Rep g'.fix W (.sl el r) (xs.set i z) [(g.bx j).h] ∧ ∀ b o, g.fix b o → g'.fix b o := by
 obtain ⟨⟨bo, oo, c, cur, cs, m1, m2, m3, m4, m5, m6, m7, m8, m9⟩, n1, n2, n3, n4⟩ := hole_at h hb
 have h1 : St w0 T f0 n (e.set (.box j) (.gone hv (ver + 1))) a W g := by
  refine h.setBox' trivial ?_ (.out (fun _ => rfl) rfl)
  rw [hb]
  exact ⟨fun hh => (by cases hh), fun b hv v hh => hh.1, fun b hv i o sz v hh => hh.1, fun _ _ _ _ _ _ hh => hh.1, fun _ _ _ _ _ _ _ _ _ hh => hh.1⟩
 let inn : Nat → Prop := fun b => ∃ A n c, (g.bx j).sub (i * r.sz + o) = .slice (some A) n c ∧ A.block = b
 let g' : Gh := { g with fix := fun b' o => g.fix b' o ∨ b' = bo ∨ inn b' }
 have hinn : ∀ b, inn b → g.own b = some (.cell j (i * r.sz + o)) := fun b ⟨A, n', c', e1, e2⟩ => by
  obtain ⟨A', c'', q5, q6, q7⟩ := n4
  rw [q5] at e1
  injection e1 with e1 _ _
  subst e1
  rcases q7 with ⟨q7, _⟩ | ⟨b2, off3, cur2, cs2, q7, p2, p3, -⟩
  ·cases q7
  ·injection q7 with q7
   subst q7
   subst e2
   exact p3
 have hmono : ∀ b o, g.fix b o → g'.fix b o ∧ ∀ u, W.cell? ⟨b, o, none⟩ = some u → W.cell? ⟨b, o, none⟩ = some u := fun b o hf => ⟨.inl hf, fun _ h => h⟩
 have hown : ∀ b, (b = bo ∨ inn b) → g.own b = some (.box j) ∨ g.own b = some (.cell j (i * r.sz + o)) := fun b hb => by
  rcases hb with rfl | hb
  ·exact .inl m4
  ·exact .inr (hinn b hb)
 have h2 : St w0 T f0 n (e.set (.box j) (.gone hv (ver + 1))) a W g' := by
  refine h1.move (X := fun q => q = .box j ∨ q = .cell j (i * r.sz + o)) ⟨hmono, fun b' q hb' hx => ⟨hb', rfl, fun o ho => ?_⟩⟩ (fun q hq' => ?_) (fun _ _ => rfl) rfl rfl rfl (Nat.le_refl _) (fun _ _ _ => rfl) h1.ownNew (fun b' o hf => ?_) (fun b' o hb' ht hf => ?_)
  ·rcases ho with ho | ho
   ·exact ho
   ·rcases hown b' ho with hh | hh
    ·rw [hh] at hb'; injection hb' with hb'; exact absurd (.inl hb'.symm) hx
    ·rw [hh] at hb'; injection hb' with hb'; exact absurd (.inr hb'.symm) hx
  ·rcases hq' with rfl | rfl
   ·exact free_box (fun _ _ _ hh => by cases hh) rfl
   ·refine ⟨fun t ht => (by cases ht), fun i' T' cs' v' hbx => ⟨by simp, fun jj d hj _ => ?_⟩, fun i' hbx => ⟨by simp, fun k' hk => ?_⟩⟩
    ·injection hj with hj _
     subst hj
     simp [Env.set] at hbx
    ·injection hk with hk _
     subst hk
     simp [Env.set, PV.isR] at hbx
  ·rcases hf with hf | hf
   ·exact h.fixLt b' o hf
   ·rcases hown b' hf with hh | hh
    ·exact (h.ownNew _ _ hh).1
    ·exact (h.ownNew _ _ hh).1
  ·rcases hf with hf | hf
   ·exact hf
   ·rcases hown b' hf with hh | hh
    ·exact absurd ((h.ownNew _ _ hh).2 hb') ht
    ·exact absurd ((h.ownNew _ _ hh).2 hb') ht
 refine ⟨g', rfl, h2, ?_, fun b o h => .inl h⟩
 have hin : Rep g'.fix W (.sl e2 r2) ys [(g.bx j).sub (i * r.sz + o)] := n4.val (fun b o hf => .inl hf) fun A n' c' e1 _ => .inr (.inr ⟨A, n', c', e1, rfl⟩)
 have m7' := m7.mono hmono
 have helem := elem_cells m7' n1
 have hrz : Rep g'.fix W r z (((cs.drop (i * r.sz)).take r.sz).take o ++ [(g.bx j).sub (i * r.sz + o)] ++ ((cs.drop (i * r.sz)).take r.sz).drop (o + 1)) := by
  refine Ty.build_all hz ?_
  have hcs := Cells.split _ _ _ helem
  unfold putCells
  refine ((hcs.take o).append (show Cells g'.fix W [⟨.sl e2 r2, ys, false⟩] [_] from ⟨hin, trivial⟩)).append (hcs.drop _)
 have hrows := m7'.set n1 hrz
 rw [m1, ← List.length_set (as := xs) (i := i) (a := z)]
 refine Rep.of_rows hrows (by rw [List.length_set]; exact m2) fun k u hu => ⟨.inr (.inl rfl), ?_⟩
 rw [m3.cell]
 have hi : i * r.sz + r.sz ≤ cs.length := by rw [m7.1, ← Nat.succ_mul]; exact Nat.mul_le_mul_right _ n1
 have hel : ((cs.drop (i * r.sz)).take r.sz).length = r.sz := by rw [List.length_take, List.length_drop]; omega
 have hul : (((cs.drop (i * r.sz)).take r.sz).take o ++ [(g.bx j).sub (i * r.sz + o)] ++ ((cs.drop (i * r.sz)).take r.sz).drop (o + 1)).length = r.sz := by
  simp only [List.length_append, List.length_take, List.length_drop, List.length_cons, List.length_nil]
  omega
 rcases put_get (by rw [hul]; exact hi) hu with ⟨q1, q2, q3⟩ | ⟨q1, q2⟩
 ·rw [hul] at q2
  rcases put_get (us := [(g.bx j).sub (i * r.sz + o)]) (by rw [hel]; simp; omega) q3 with ⟨p1, p2, p3⟩ | ⟨p1, p2⟩
  ·have hk : k = i * r.sz + o := by simp only [List.length_cons, List.length_nil] at p2; omega
   subst hk
   have hz0 : i * r.sz + o - i * r.sz - o = 0 := by omega
   rw [hz0] at p3
   simp only [List.getElem?_cons_zero, Option.some.injEq] at p3
   rw [← p3]
   exact m9
  ·rw [List.getElem?_take] at p2
   split at p2
   ·rw [List.getElem?_drop] at p2
    rw [show i * r.sz + (k - i * r.sz) = k by omega] at p2
    exact m8 k u p2 (by simp only [List.length_cons, List.length_nil] at p1; omega)
   ·cases p2
 ·rw [hul] at q1
  exact m8 k u q2 (by omega)
end
end Go.PM
