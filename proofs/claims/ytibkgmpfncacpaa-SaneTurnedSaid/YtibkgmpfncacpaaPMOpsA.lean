/- PM: each operation, sound: the first part. -/
import Derived.Test.YtibkgmpfncacpaaPMTy
namespace Go.PM
open Go
section
variable {P : Program} {G : Ctx} {w0 : World} {T : Nat → Prop} {f0 : F0} {e e' : Env} {a : Act} {W : World} {g : Gh} {o : Oper} {K : Act → World → Prop} {Q : Exit → Act → World → Prop}
def Sound (P : Program) (G : Ctx) (w0 : World) (T : Nat → Prop) (f0 : F0) (o : Oper) : Prop :=
 ∀ {e e' : Env} {a : Act} {W : World} {g : Gh} {K : Act → World → Prop} {Q : Exit → Act → World → Prop}, St w0 T f0 G.n e a W g → dstOk G.n o.dst = true → (opV G o).run e some = some e' →
  (∀ a' W' g', St w0 T f0 G.n e' a' W' g' → K a' W') → o.wp P a W K Q
theorem typed_nil_dat {g : Gh} {W : World} (t : Option Ty) {pv : PV} {v : Value} (h : Dat g W pv v) : Dat g W (typed t pv) v := by
 cases pv <;> try exact h
 simp only [typed]
 split
 ·rename_i e r
  have h' : v = .slice none 0 0 := h
  subst h'
  exact ⟨rfl, ⟨none, 0, rfl, ⟨Nat.le_refl _, Nat.zero_le _⟩, fun hn => absurd rfl hn⟩, fun hh => by simp [DV.clear] at hh⟩
 ·trivial
theorem typed_ptr {e : Env} (t : Option Ty) {pv : PV} {v : Value} (h : PtrOk e g pv v) : PtrOk e g (typed t pv) v := by
 cases pv <;> try exact h
 simp only [typed]
 split <;> exact not_ptr rfl e
theorem clear_ptr {e : Env} {pv : PV} {v : Value} (h : PtrOk e g pv v) : PtrOk e g pv.clear v := by
 cases pv <;> first | exact h | exact not_ptr rfl e
theorem hand_sound {n : Nat} (h : St w0 T f0 n e a W g) {x : Operand} {k : PV → Prog} (hr : (hand x k).run e some = some e') :
  (∃ pv, (k pv).run e some = some e' ∧ pv.clear = pv ∧ Dat g W pv (a.eval x) ∧ PtrOk e g pv (a.eval x)) ∨
  (∃ t ty y, x = .tmp t ∧ (e (.slot t)).owns = true ∧ (k (.val ⟨ty, y, true⟩)).run (e.set (.slot t) (.val ⟨ty, y, false⟩)) some = some e' ∧
   St w0 T f0 n (e.set (.slot t) (.val ⟨ty, y, false⟩)) a W g ∧ Dat g W (.val ⟨ty, y, true⟩) (a.eval x) ∧ Tip g.fix g.own W (.slot t) ty (a.eval x)) := by
 cases x with
 | tmp t =>
  simp only [hand, Prog.run] at hr
  split at hr
  ·rename_i ty y he
   have hs := h.slots t
   rw [he] at hs
   refine .inr ⟨t, ty, y, rfl, by rw [he]; rfl, hr, h.setSlot ⟨hs.1, hs.2.1, fun hh => by simp at hh⟩ (not_ptr rfl e), hs.dat, hs.2.2 rfl⟩
  ·rename_i ty y tip he
   have hs := h.slots t
   rw [he] at hs
   exact .inr ⟨t, ty, y, rfl, by rw [he]; rfl, hr, h.setSlot ⟨hs.1, hs.2.1, fun hh => by simp at hh⟩ (not_ptr rfl e), ⟨hs.1, hs.2.1, fun hh => by simp [DV.clear] at hh⟩, hs.2.2.tip⟩
  ·rename_i v hv hv2
   refine .inl ⟨e (.slot t), hr, ?_, (h.slots t).dat, h.ptr t⟩
   cases hh : e (.slot t) with
   | val d =>
    obtain ⟨ty, y, tip⟩ := d
    cases tip
    ·rfl
    ·exact absurd hh (by simpa using hv ty y)
   | exact d =>
    obtain ⟨ty, y, tip⟩ := d
    exact absurd hh (by simpa using hv2 ty y tip)
   | _ => rfl
 | const v =>
  obtain ⟨pv, h1, h2, h3⟩ := getV_sound h (x := .const v) (k := k) hr
  refine .inl ⟨constPV v, hr, ?_, constPV_dat g W v, constPV_ptr e g v _⟩
  unfold constPV; split <;> rfl
 | global i => simp [hand, getV, Prog.run] at hr
 | func f => exact .inl ⟨.fn f, hr, rfl, rfl, trivial⟩
theorem free_slot {e : Env} {t : Nat} {pv : PV} (h : pv.owns = false) : Free (e.set (.slot t) pv) (.slot t) := by
 refine ⟨fun t' ht => ?_, fun i T cs v _ => ⟨by simp, fun j d hj => by simp at hj⟩, fun i _ => by simp⟩
 injection ht with ht
 subst ht
 simp only [Env.set, if_true]
 exact h
theorem St.retip {n : Nat} (h : St w0 T f0 n e a W g) {q : Lab} (q' : Lab) (hf : Free e q) {ty : Ty} {v : Value} (ht : Tip g.fix g.own W q ty v) :
  ∃ g', g'.fix = g.fix ∧ g'.bx = g.bx ∧ St w0 T f0 n e a W g' ∧ Tip g'.fix g'.own W q' ty v := by
 cases ty <;> simp only [Tip] at ht
 rcases ht with ht | ⟨b, m, cap, cur, h1, h2, h3, h4, h5, h6, h7⟩
 ·exact ⟨g, rfl, rfl, h, .inl ht⟩
 ·refine ⟨{ g with own := fun c => if c = b then some q' else g.own c }, rfl, rfl, h.relabel hf h6, .inr ⟨b, m, cap, cur, h1, h2, h3, h4, h5, by simp, h7⟩⟩
theorem hand_put (h : St w0 T f0 G.n e a W g) {x : Operand} {t : Option Ty} (hd : dstOk G.n o.dst = true) (hr : (hand x fun v => put o.dst (typed t v) .done).run e some = some e')
  (he : (execOp a.eval o).run P W = .ok (.value (a.eval x)) W) (hK : ∀ a' W' g', St w0 T f0 G.n e' a' W' g' → K a' W') : o.wp P a W K Q := by
 refine wp_value he ?_
 rcases hand_sound h hr with ⟨pv, hr, hc, hdat, hp⟩ | ⟨s, ty, y, hx, hes, hr, h', hdat, htip⟩
 ·rw [put_run hr] at hK
  cases pv with
  | nil =>
   simp only [typed] at hK
   split at hK
   ·rename_i e1 r
    have hv : a.eval x = .slice none 0 0 := hdat
    exact hK _ _ _ (h.putDst hd (fun d _ => ⟨by rw [hv]; rfl, by rw [hv]; exact ⟨none, 0, rfl, ⟨Nat.le_refl _, Nat.zero_le _⟩, fun hn => absurd rfl hn⟩, fun _ => .inl ⟨none, 0, hv⟩⟩) (not_ptr rfl e))
   ·exact hK _ _ _ (h.putDst hd (fun d _ => trivial) (not_ptr rfl e))
  | _ => exact hK _ _ _ (h.putDat hd hdat hc hp)
 ·rw [put_run hr] at hK
  cases hdst : o.dst with
  | none =>
   rw [hdst] at hK
   exact hK _ _ _ h'
  | some d =>
   obtain ⟨g', e1, e2, h'', htip'⟩ := h'.retip (.slot d) (free_slot rfl) htip
   have hfin := h''.put (d := d) (dst_lt hd d hdst) (pv := .val ⟨ty, y, true⟩) (v := a.eval x) ⟨hdat.1, by have := hdat.2.1; rw [e1]; exact this, fun _ => htip'⟩ (not_ptr rfl _)
   rw [hdst] at hK
   exact hK _ _ _ hfin
theorem sound_assign {x : Operand} (ho : o.op = .assign x) : Sound P G w0 T f0 o := by
 intro e e' a W g K Q h hd hr hK
 simp only [opV, ho] at hr
 exact hand_put h hd hr (by simp [execOp, ho]) hK
theorem sound_move {x : Operand} (ho : o.op = .move x) : Sound P G w0 T f0 o := by
 intro e e' a W g K Q h hd hr hK
 simp only [opV, ho] at hr
 cases ht : isTip G o.dst <;> simp only [ht, cond_true, cond_false] at hr
 rotate_left
 ·exact hand_put h hd hr (by simp [execOp, ho]) hK
 ·obtain ⟨pv, hr, hdat, hp⟩ := getV_sound h hr
  rw [put_run hr] at hK
  refine wp_value (v := a.eval x) (by simp [execOp, ho]) (hK _ _ _ (h.putDat hd ?_ (PV.clear_clear _) (clear_ptr (typed_ptr _ hp))))
  have := typed_nil_dat (look o.type G.ty) hdat
  unfold Dat at *
  rwa [PV.clear_clear]
theorem val_dat {g : Gh} {W : World} {t : Ty} {x : t.D} {v : Value} (h1 : Value.isAgg v = false) (h2 : Rep g.fix W t x [v]) : Dat g W (.val ⟨t, x, false⟩) v := ⟨h1, h2, fun h => by simp [DV.clear] at h⟩
theorem value_put (h : St w0 T f0 G.n e a W g) (hd : dstOk G.n o.dst = true) {pv : PV} {v : Value} (hr : (put o.dst pv .done).run e some = some e') (hc : pv.clear = pv) (hp : pv.at? = none) (hv : Dat g W pv v)
  (he : (execOp a.eval o).run P W = .ok (.value v) W) (hK : ∀ a' W' g', St w0 T f0 G.n e' a' W' g' → K a' W') : o.wp P a W K Q := by
 rw [put_run hr] at hK
 exact wp_value he (hK _ _ _ (h.putDat hd hv hc (not_ptr hp e)))
theorem sound_nilCheck {x : Operand} (ho : o.op = .nilCheck x) : Sound P G w0 T f0 o := by
 intro e e' a W g K Q h hd hr hK
 simp only [opV, ho] at hr
 obtain ⟨pv, hr, hdat, hp⟩ := getV_sound h hr
 split at hr
 ·rename_i i lo
  have hv : a.eval x = .pointer (some ⟨(g.bx i).b, lo, none⟩) := hdat
  rw [put_run hr] at hK
  exact wp_value (v := a.eval x) (by simp [execOp, ho, hv]) (hK _ _ _ (h.putDat hd hdat rfl hp))
 ·rename_i cs
  obtain ⟨ad, hv, hs⟩ := hdat
  exact value_put h hd hr rfl rfl ⟨ad, hv, hs⟩ (by simp [execOp, ho, hv]) hK
 ·rename_i f
  have hv : a.eval x = .func (.func f) #[] #[] := hdat
  exact value_put h hd hr rfl rfl hdat (by simp [execOp, ho, hv]) hK
 ·rename_i q c y tip
  obtain ⟨ps, hv, -⟩ := hdat.2.1
  have hv : a.eval x = .func (.func q) #[] ps.toArray := by injection hv
  exact value_put h hd hr rfl rfl (val_dat hdat.1 hdat.2.1) (by simp [execOp, ho, hv]) hK
 ·simp [Prog.run] at hr
theorem sound_unOp {op : UnOp} {t : TypeId} {x : Operand} (ho : o.op = .unOp op t x) : Sound P G w0 T f0 o := by
 intro e e' a W g K Q h hd hr hK
 simp only [opV, ho] at hr
 obtain ⟨pv, hr, hdat, hp⟩ := getV_sound h hr
 split at hr
 ·rename_i b _ _
  have hv : a.eval x = .bool b := by have := hdat.2.1; simpa [Rep, DV.clear] using this
  exact value_put h hd hr rfl rfl (val_dat (t := .bool) (v := .bool !b) rfl rfl) (by simp [execOp, ho, hv, Op.unary]) hK
 ·rename_i k m _ _
  have hv : a.eval x = .int k m := by have := hdat.2.1; simpa [Rep, DV.clear] using this
  exact value_put h hd hr rfl rfl (val_dat (t := .int k) (v := .int k (k.wrap (0 - m))) rfl rfl) (by simp [execOp, ho, hv, Op.unary, Op.intArith]) hK
 ·simp [Prog.run] at hr
theorem Cells.clear {fix : Nat → Nat → Prop} {W : World} : ∀ {ds : List DV} {vs : List Value}, Cells fix W ds vs → Cells fix W (ds.map DV.clear) vs
 | [], [], _ => trivial
 | _ :: _, _ :: _, h => ⟨h.1, Cells.clear h.2⟩
theorem NilTips.clear (cs : List DV) (vs : List Value) : NilTips (cs.map DV.clear) vs := NilTips.of_clear fun d hd => by
 obtain ⟨d', _, rfl⟩ := List.mem_map.1 hd
 rfl
theorem sound_extract {x : Operand} {i : Nat} (ho : o.op = .extract x i) : Sound P G w0 T f0 o := by
 intro e e' a W g K Q h hd hr hK
 simp only [opV, ho] at hr
 obtain ⟨pv, hr, hdat, hp⟩ := getV_sound h hr
 split at hr
 ·rename_i vs
  obtain ⟨us, hv, hl, hc⟩ := hdat
  split at hr
  ·rename_i cs _ hdrop
   have hi : vs[i]? = some (true, cs) := by have := congrArg (fun l => l[0]?) hdrop; simpa using this
   obtain ⟨u, hu, hag, hcell⟩ := hc i _ hi
   cases u <;> simp [Value.isAgg] at hag
   rename_i ws
   exact value_put h hd hr rfl rfl ⟨ws, rfl, Cells.clear hcell, NilTips.clear _ _⟩ (by simp [execOp, ho, hv, Instr.extract, hu]) hK
  ·rename_i dv _ hdrop
   have hi : vs[i]? = some (false, [dv]) := by have := congrArg (fun l => l[0]?) hdrop; simpa using this
   obtain ⟨u, hu, hag, hcell⟩ := hc i _ hi
   rw [isAgg_false_cells hag] at hcell
   exact value_put h hd hr rfl rfl (val_dat hag hcell.1) (by simp [execOp, ho, hv, Instr.extract, hu]) hK
  ·simp [Prog.run] at hr
 ·simp [Prog.run] at hr
end
end Go.PM
