/- PM: each operation, sound: the second part: numbers, fields, elements. -/
import Derived.Test.YtibkgmpfncacpaaPMOpsA
import Derived.Laws.StructEq
import Derived.Laws.Pointers
namespace Go.PM
open Go
section
variable {P : Program} {G : Ctx} {w0 : World} {T : Nat → Prop} {f0 : F0} {o : Oper}
def CtxTys (P : Program) (G : Ctx) : Prop := ∀ t T, look t G.ty = some T → TyOk P t T
theorem int_of_dat {g : Gh} {W : World} {k : IntKind} {x : Int} {tip : Bool} {v : Value} (h : Dat g W (.val ⟨.int k, x, tip⟩) v) : v = .int k x := by
 have := h.2.1; simpa [Rep, DV.clear] using this
theorem bool_of_dat {g : Gh} {W : World} {x : Bool} {tip : Bool} {v : Value} (h : Dat g W (.val ⟨.bool, x, tip⟩) v) : v = .bool x := by
 have := h.2.1; simpa [Rep, DV.clear] using this
theorem str_of_dat {g : Gh} {W : World} {x : ByteArray} {tip : Bool} {v : Value} (h : Dat g W (.val ⟨.str, x, tip⟩) v) : v = .string x := by
 have := h.2.1; simpa [Rep, DV.clear] using this
theorem int_dat (g : Gh) (W : World) (k : IntKind) (x : Int) : Dat g W (.val ⟨.int k, x, false⟩) (.int k x) := val_dat rfl rfl
theorem bool_dat (g : Gh) (W : World) (x : Bool) : Dat g W (.val ⟨.bool, x, false⟩) (.bool x) := val_dat rfl rfl
theorem chk_run {b : Bool} {k : Prog} {e e' : Env} (hr : (Prog.chk b k).run e some = some e') : b = true ∧ k.run e some = some e' := by
 cases b <;> simp only [Prog.run, cond_true, cond_false] at hr
 ·simp at hr
 ·exact ⟨rfl, hr⟩
theorem vrep_one {fix : Nat → Nat → Prop} {W : World} {t : Ty} {x : t.D} {v : Value} (h : VRep fix W t x v) (ha : t.isAgg = false) : Rep fix W t x [v] := by
 have h2 := h.2
 rwa [isAgg_false_cells (h.1.trans ha)] at h2
theorem bytes_str {P : Program} {fix : Nat → Nat → Prop} {W : World} {s d e : TypeId} {xs : List Int} {v : Value} (hs : TyOk P s (.sl e (.int .u8))) (hd : P.underlying d = some .string) (hv : Rep fix W (.sl e (.int .u8)) xs [v]) :
  (convert s d v).run P W = .ok (.string (strOfNums xs)) W := by
 have hu := hs.sl_und
 have he := hs.sl_row.int_und
 obtain ⟨A, c, h1, h2, h3⟩ := hv
 injection h1 with h1
 subst h1
 cases xs with
 | nil =>
  cases A with
  | none => exact run_convert_bytes_nil W s e hu he _ _ d hd
  | some ad =>
   rw [run_convert_bytes_string W s d e _ _ _ hu he hd]
   exact run_bytesToString W ad 0 c [] (by simp [loadCells, loadCellsFrom])
 | cons x xs =>
  obtain ⟨ad, ha, hsp, hc⟩ := h3 (by simp)
  subst ha
  obtain ⟨b, off, sp⟩ := ad
  simp only at hsp
  subst hsp
  refine run_convert_bytes_arg W s e hu he b off _ c (x :: xs) rfl (fun i hi => ?_) d hd
  have hx : (x :: xs)[i]? = some ((x :: xs)[i]) := List.getElem?_eq_getElem hi
  obtain ⟨ci, r1, r2⟩ := hc i _ hx
  have r1' : ci = [.int .u8 (x :: xs)[i]] := r1
  subst r1'
  obtain ⟨-, r3⟩ := r2 0 _ rfl
  have hm : off + i * (Ty.int .u8).sz + 0 = off + i := by simp [Ty.sz]
  have hg : (x :: xs).getD i 0 = (x :: xs)[i] := by rw [List.getD, hx]; rfl
  simp only [hm] at r3
  rw [hg]
  exact r3
theorem str_und {t : TypeId} (h : TyOk P t .str) : P.underlying t = some .string := by
 unfold TyOk at h
 simp only [tyGo, Bool.and_eq_true] at h
 have h2 := h.2
 split at h2
 ·assumption
 ·simp at h2
theorem TyOk.und_some {t : TypeId} {T' : Ty} (h : TyOk P t T') : ∃ d, P.underlying t = some d := by
 rcases h.agg_und with ⟨⟨fs, hu⟩, _⟩ | ⟨_, ⟨k, hu⟩ | hu | hu | ⟨e, hu⟩ | ⟨_, _, _, hu⟩⟩ <;> exact ⟨_, hu⟩
theorem run_convert_same {s e el : TypeId} (hu : P.underlying s = some (.slice e)) (he : P.underlying e = some (.int .u8)) {W : World} {b n c : Nat} {cur : Array Value} (hb : W.heap[b]? = some (.cells cur el (0, 0))) :
  (convert s s (.slice (some ⟨b, 0, none⟩) n c)).run P W = .ok (.slice (some ⟨b, 0, none⟩) n c) (W.freeze ⟨b, cur.size, none⟩ 1) := by
 have hs : W.shape? b = some (el, cur.size) := by simp [World.shape?, hb]
 simp [convert, run_underlying hu, run_underlying he, markStringish, shape, freeze, Sem.run, hs]
theorem freeze_heap {W : World} {b : Nat} {el : TypeId} {cur : Array Value} (hb : W.heap[b]? = some (.cells cur el (0, 0))) :
  (W.freeze ⟨b, cur.size, none⟩ 1).heap.size = W.heap.size ∧ (∀ k, k ≠ b → (W.freeze ⟨b, cur.size, none⟩ 1).heap[k]? = W.heap[k]?) ∧ (W.freeze ⟨b, cur.size, none⟩ 1).heap[b]? = some (.cells cur el (cur.size, cur.size + 1)) := by
 refine ⟨by simp [World.freeze], fun k hk => ?_, ?_⟩
 ·have hk' : ¬ b = k := fun h => hk h.symm
  simp [World.freeze, Array.getElem?_modify, hk']
 ·simp [World.freeze, Array.getElem?_modify, hb]
theorem sound_convert {s d : TypeId} {x : Operand} (hG : CtxTys P G) (ho : o.op = .convert s d x) : Sound P G w0 T f0 o := by
 intro e e' a W g K Q h hd hr hK
 simp only [opV, ho] at hr
 split at hr
 ·rename_i el hls hld
  obtain ⟨xs, hr1, hy⟩ := getD_sound h hr
  have hv := vrep_one hy rfl
  exact value_put h hd hr1 rfl rfl (val_dat (t := .str) (v := .string (strOfNums xs)) rfl rfl) (by simp [execOp, ho, bytes_str (hG _ _ hls) (str_und (hG _ _ hld)) hv]) hK
 ·rename_i el el' r' hls hld
  obtain ⟨hsd, hr2⟩ := chk_run hr
  clear hr
  have hr := hr2
  clear hr2
  have hsd := Nat.eq_of_beq_eq_true hsd
  subst hsd
  cases x with
  | tmp t =>
   simp only [Prog.run] at hr
   split at hr
   ·rename_i ty y tip hes
    cases hty : eqTy ty (.sl el (.int .u8)) <;> simp only [hty] at hr
    ·cases hr
    have hty : ty = .sl el (.int .u8) := by unfold eqTy at hty; split at hty; assumption; cases hty
    subst hty
    have hs := h.slots t
    rw [hes] at hs
    obtain ⟨hag, hrep, b, m, cur, hv, hb, hm, hcs, hown, hfx⟩ := hs
    have hev : a.eval (.tmp t) = a.tmps.getD t undef := rfl
    have hu := (hG _ _ hls).sl_und
    have he := (hG _ _ hls).sl_row.int_und
    obtain ⟨f1, f2, f3⟩ := freeze_heap hb
    have hcell : ∀ bb o, (W.freeze ⟨b, cur.size, none⟩ 1).cell? ⟨bb, o, none⟩ = W.cell? ⟨bb, o, none⟩ := fun bb o => by
     by_cases hbb : bb = b
     ·subst hbb; rw [World.cell?, World.cell?, f3, hb]
     ·rw [World.cell?, World.cell?, f2 bb hbb]
    have h1 : St w0 T f0 G.n (e.set (.slot t) (.val ⟨.sl el (.int .u8), y, false⟩)) a W g := h.setSlot ⟨hag, hrep, fun hh => by simp at hh⟩ (not_ptr rfl e)
    have h2 : St w0 T f0 G.n (e.set (.slot t) (.val ⟨.sl el (.int .u8), y, false⟩)) a (W.freeze ⟨b, cur.size, none⟩ 1) g := by
     refine h1.move (X := fun q => q = .slot t) ⟨fun bb o hf => ⟨hf, fun u hu => by rw [hcell]; exact hu⟩, fun bb q hq hx => ⟨hq, f2 bb (fun he => ?_), fun _ ho => ho⟩⟩ (fun q hq => by rw [hq]; exact free_slot rfl) (fun _ _ => rfl) rfl rfl rfl (by omega) (fun bb hbb ht => f2 bb (fun he => ?_)) (fun bb q hq => ?_) (fun bb o hf => ?_) (fun _ _ _ _ hf => hf)
     ·subst he; rw [hown] at hq; injection hq with hq; exact hx hq.symm
     ·subst he; exact ht ((h.ownNew _ _ hown).2 hbb)
     ·have := h.ownNew bb q hq; exact ⟨by omega, this.2⟩
     ·have := h.fixLt bb o hf; omega
    rw [put_run hr] at hK
    refine wp_value (v := a.tmps.getD t undef) (W' := W.freeze ⟨b, cur.size, none⟩ 1) ?_ (hK _ _ _ (h2.putDst hd (fun d _ => ⟨hag, Rep.mono (fun bb o hf => ⟨hf, fun u hu => by rw [hcell]; exact hu⟩) _ _ _ hrep, fun _ => .inl ⟨_, _, hv⟩⟩) (not_ptr rfl _)))
    simp only [execOp, ho, hev]
    rw [hv, Sem.run_bind, run_convert_same hu he hb]
    rfl
   ·simp [Prog.run] at hr
  | _ => simp [Prog.run] at hr
 ·rename_i ts k hls hld
  obtain ⟨ds, hds⟩ := (hG _ _ hls).und_some
  obtain ⟨pv, hr1, hdat, hp⟩ := getV_sound h hr
  split at hr1
  ·rename_i k' m _
   have hv := int_of_dat hdat
   have hu := (hG _ _ hld).int_und
   exact value_put h hd hr1 rfl rfl (int_dat g W k (k.wrap m)) (by simp [execOp, ho, hv, convert, run_underlying hds, run_underlying hu, Conv.intToInt]) hK
  ·simp [Prog.run] at hr1
 ·rename_i ts _ hls hld
  obtain ⟨ds, hds⟩ := (hG _ _ hls).und_some
  obtain ⟨y, hr1, hy⟩ := getD_sound h hr
  have hv : a.eval x = .string y := by
   have h2 := vrep_one hy rfl
   have h3 : [a.eval x] = [.string y] := h2
   injection h3
  have hu := str_und (hG _ _ hld)
  exact value_put h hd hr1 rfl rfl (val_dat (t := .str) (v := .string y) rfl rfl) (by simp [execOp, ho, hv, convert, run_underlying hds, run_underlying hu]) hK
 ·simp [Prog.run] at hr
theorem run_intBin {op : BinOp} {t : TypeId} {k : IntKind} {a b : Int} {ok : Bool} {r : Int} (h : binInt op k a b = some (ok, r)) (hok : ok = true) (W : World) : (binOp op t (.int k a) (.int k b)).run P W = .ok (.int k r) W := by
 subst hok
 cases op <;> simp only [binInt, Option.some.injEq, Prod.mk.injEq, Bool.not_eq_true', decide_eq_false_iff_not, reduceCtorEq, true_and] at h
 ·subst h; simp [binOp, Op.intArith]
 ·subst h; simp [binOp, Op.intArith]
 ·subst h; simp [binOp, Op.intArith]
 ·obtain ⟨h1, h2⟩ := h; subst h2; simp [binOp, Op.intDiv, h1]
 ·obtain ⟨h1, h2⟩ := h; subst h2; simp [binOp, Op.intDiv, h1]
 ·subst h; simp [binOp, Op.intBits]
 ·subst h; simp [binOp, Op.intBits]
 ·subst h; simp [binOp, Op.intBits]
 ·obtain ⟨h1, h2⟩ := h; subst h2; simp only [binOp, Op.shift, if_neg h1]; rfl
 ·obtain ⟨h1, h2⟩ := h; subst h2; simp only [binOp, Op.shift, if_neg h1]; rfl
theorem run_shift {op : BinOp} {t : TypeId} {k k' : IntKind} {a b : Int} {ok : Bool} {r : Int} (hop : op = .shl ∨ op = .shr) (h : binInt op k a b = some (ok, r)) (hok : ok = true) (W : World) : (binOp op t (.int k a) (.int k' b)).run P W = .ok (.int k r) W := by
 subst hok
 rcases hop with rfl | rfl <;> simp only [binInt, Option.some.injEq, Prod.mk.injEq, Bool.not_eq_true', decide_eq_false_iff_not] at h
 ·obtain ⟨h1, h2⟩ := h; subst h2; simp only [binOp, Op.shift, if_neg h1]; rfl
 ·obtain ⟨h1, h2⟩ := h; subst h2; simp only [binOp, Op.shift, if_neg h1]; rfl
theorem run_cmp {op : BinOp} {t : TypeId} {k : IntKind} {a b : Int} {r : Bool} (h : cmpInt op a b = some r) (W : World) : (binOp op t (.int k a) (.int k b)).run P W = .ok (.bool r) W := by
 cases op <;> simp only [cmpInt, Option.some.injEq, reduceCtorEq] at h <;> subst h <;> simp [binOp, Op.intCmp]
def EqOk (P : Program) (t : TypeId) (T : Ty) : Prop := ∀ (x y : T.D) (b : Bool) (cs ds : List Value) (fix : Nat → Nat → Prop) (W : World), T.eq x y = some b → Rep fix W T x cs → Rep fix W T y ds → T.isAgg = true → 0 < T.sz →
 ∀ (p q : Operand),
  ((eqGuard .eql t p q (.agg cs.toArray) (.agg ds.toArray)).run P W = .ok () W ∧ (binOp .eql t (.agg cs.toArray) (.agg ds.toArray)).run P W = .ok (.bool b) W) ∧
  ((eqGuard .neq t p q (.agg cs.toArray) (.agg ds.toArray)).run P W = .ok () W ∧ (binOp .neq t (.agg cs.toArray) (.agg ds.toArray)).run P W = .ok (.bool !b) W)
theorem run_eq_bool {t : TypeId} (hu : P.underlying t = some .bool) (x y : Bool) (W : World) : (binOp .eql t (.bool x) (.bool y)).run P W = .ok (.bool (x == y)) W := by
 show (do pure (Value.bool (← Op.equal t (.bool x) (.bool y))) : Sem Value).run P W = _
 have := run_equalIn_bool W 9999 t x y hu
 simp only [Sem.run_bind, Op.equal]
 rw [show Op.maxDepth = 9999 + 1 from rfl, this]
 rfl
theorem run_ne_bool {t : TypeId} (hu : P.underlying t = some .bool) (x y : Bool) (W : World) : (binOp .neq t (.bool x) (.bool y)).run P W = .ok (.bool (!(x == y))) W := by
 show (do pure (Value.bool (!(← Op.equal t (.bool x) (.bool y)))) : Sem Value).run P W = _
 have := run_equalIn_bool W 9999 t x y hu
 simp only [Sem.run_bind, Op.equal]
 rw [show Op.maxDepth = 9999 + 1 from rfl, this]
 rfl
def Ty.ht : Ty → Nat
 | .pair a b => a.ht + b.ht + 1
 | _ => 1
theorem run_part {t : TypeId} {ft : Ty} (h : TyOk P t ft) (fix : Nat → Nat → Prop) (W : World) {c0 c1 c2 : List Value} {x : ft.D} (hr : Rep fix W ft x c1) (hsz : 0 < ft.sz) :
  (part t (c0 ++ (c1 ++ c2)).toArray c0.length).run P W = .ok (if ft.isAgg then .agg c1.toArray else c1.getD 0 undef) W := by
 have hl := hr.len
 cases ha : ft.isAgg
 ·have hone : ∃ v, c1 = [v] := by
   have h1 : ft.sz = 1 := by cases ft <;> simp [Ty.isAgg] at ha <;> rfl
   rw [h1] at hl
   exact List.length_eq_one_iff.1 hl
  obtain ⟨v, rfl⟩ := hone
  simp [part, h.run_isAgg, ha]
 ·simp [part, h.run_isAgg, ha, h.run_size, ← hl]
theorem eqGo : ∀ (T : Ty) (d : Nat), T.ht < d → ∀ (x y : T.D) (b : Bool) (fix : Nat → Nat → Prop) (W : World), T.eq x y = some b →
  (∀ t cs ds, tyGo P T (.inl t) = true → Rep fix W T x cs → Rep fix W T y ds → 0 < T.sz → (Op.equalIn d t (if T.isAgg then .agg cs.toArray else cs.getD 0 undef) (if T.isAgg then .agg ds.toArray else ds.getD 0 undef)).run P W = .ok b W) ∧
  (∀ fs c0 d0 cs ds, tyGo P T (.inr (fs, c0.length)) = true → d0.length = c0.length → Rep fix W T x cs → Rep fix W T y ds → (Op.eqFields d (c0 ++ cs).toArray (d0 ++ ds).toArray fs).run P W = .ok b W)
 | .int k, d + 1, _, x, y, b, fix, W, he => by
  simp only [Ty.eq, Option.some.injEq] at he
  subst he
  refine ⟨fun t cs ds ht hx hy _ => ?_, fun fs c0 d0 cs ds ht => by simp [tyGo] at ht⟩
  cases hx; cases hy
  simp [Ty.isAgg, run_equalIn_int W d t k k x y (TyOk.int_und ht)]
 | .bool, d + 1, _, x, y, b, fix, W, he => by
  simp only [Ty.eq, Option.some.injEq] at he
  subst he
  refine ⟨fun t cs ds ht hx hy _ => ?_, fun fs c0 d0 cs ds ht => by simp [tyGo] at ht⟩
  cases hx; cases hy
  have hu : P.underlying t = some .bool := by
   simp only [tyGo, Bool.and_eq_true] at ht
   have := ht.2
   split at this
   ·assumption
   ·simp at this
  simp [Ty.isAgg, run_equalIn_bool W d t x y hu]
 | .str, d + 1, _, x, y, b, fix, W, he => by
  simp only [Ty.eq, Option.some.injEq] at he
  subst he
  refine ⟨fun t cs ds ht hx hy _ => ?_, fun fs c0 d0 cs ds ht => by simp [tyGo] at ht⟩
  cases hx; cases hy
  have hu : P.underlying t = some .string := by
   simp only [tyGo, Bool.and_eq_true] at ht
   have := ht.2
   split at this
   ·assumption
   ·simp at this
  simp [Ty.isAgg, run_equalIn_string W d t x y hu]
 | .sl _ _, _, _, _, _, _, _, _, he => by simp [Ty.eq] at he
 | .any, _, _, _, _, _, _, _, he => by simp [Ty.eq] at he
 | .clo _ _, _, _, _, _, _, _, _, he => by simp [Ty.eq] at he
 | .unit, d, _, x, y, b, fix, W, he => by
  simp only [Ty.eq, Option.some.injEq] at he
  subst he
  refine ⟨fun t cs ds ht hx hy hz => by simp [Ty.sz] at hz, fun fs c0 d0 cs ds ht _ _ _ => ?_⟩
  simp only [tyGo, List.isEmpty_iff] at ht
  subst ht
  simp [Op.eqFields]
 | .pair p q, d + 1, hd, x, y, b, fix, W, he => by
  simp only [Ty.ht] at hd
  simp only [Ty.eq] at he
  split at he
  ·rename_i b1 b2 h1 h2
   injection he with he
   have key : ∀ dd, (Ty.pair p q).ht < dd + 1 → ∀ fs c0 d0 cs ds, tyGo P (.pair p q) (.inr (fs, c0.length)) = true → d0.length = c0.length → Rep fix W (.pair p q) x cs → Rep fix W (.pair p q) y ds → (Op.eqFields dd (c0 ++ cs).toArray (d0 ++ ds).toArray fs).run P W = .ok b W := by
    intro dd hdd fs c0 d0 cs ds ht hl hx hy
    simp only [Ty.ht] at hdd
    obtain ⟨x1, x2, ex, rx1, rx2⟩ := hx
    obtain ⟨y1, y2, ey, ry1, ry2⟩ := hy
    subst ex; subst ey
    cases fs with
    | nil => simp [tyGo] at ht
    | cons f fs =>
     simp only [tyGo, Bool.and_eq_true, beq_iff_eq, decide_eq_true_eq, bne_iff_ne, ne_eq] at ht
     obtain ⟨⟨⟨⟨t1, t2⟩, t3⟩, t4⟩, t5⟩ := ht
     have e1 := run_part (P := P) t4 fix W (c0 := c0) (c2 := x2) rx1 t2
     have e2 := run_part (P := P) t4 fix W (c0 := d0) (c2 := y2) ry1 t2
     rw [hl] at e2
     have e3 := (eqGo p dd (by omega) x.1 y.1 b1 fix W h1).1 f.type x1 y1 t4 rx1 ry1 t2
     have e4 := (eqGo q dd (by omega) x.2 y.2 b2 fix W h2).2 fs (c0 ++ x1) (d0 ++ y1) x2 y2 (by rw [List.length_append, rx1.len]; exact t5) (by simp [hl, rx1.len, ry1.len]) rx2 ry2
     simp only [List.append_assoc] at e4
     simp only [Op.eqFields, t1]
     rw [if_pos (by simpa using t3)]
     simp only [Sem.run_bind, e1, e2, Result.andThen_ok, e3]
     subst he
     cases b1
     ·simp
     ·simp only [Bool.not_true, Bool.false_eq_true, if_false, e4, Bool.true_and]
   refine ⟨fun t cs ds ht hx hy _ => ?_, key (d + 1) (by simp only [Ty.ht]; omega)⟩
   simp only [Ty.isAgg, if_true]
   simp only [tyGo, Bool.and_eq_true] at ht
   obtain ⟨⟨hs, hsi, hg⟩, hf⟩ := ht
   split at hf
   ·rename_i fs hfs
    have hfo : P.fieldsOf t = fs := by simp [Program.fieldsOf, hfs]
    rw [run_equalIn_agg W d t _ _ (by rw [hfo]; exact hfs) (by simpa using hsi), hfo]
    have h3 : tyGo P (.pair p q) (.inr (fs.toList, 0)) = true := by
     simp only [tyGo]
     split at hf
     ·simpa using hf
     ·simp at hf
    have := key d (by simp only [Ty.ht]; omega) fs.toList [] [] cs ds h3 rfl hx hy
    simpa using this
   ·simp at hf
  ·simp at he
theorem eqOk {t : TypeId} {T : Ty} (h : TyOk P t T) (hh : T.ht < 10000) : EqOk P t T := by
 intro x y b cs ds fix W he hx hy hag hsz p q
 have hg : P.eqGuardType P.depth t = false := by
  unfold TyOk at h
  cases T <;> simp [Ty.isAgg] at hag <;> simp only [tyGo, Bool.and_eq_true, Bool.not_eq_true'] at h
  ·exact h.1.2.2
  ·exact h.1.2.2
 have hq := (eqGo T 10000 hh x y b fix W he).1 t cs ds h hx hy hsz
 simp only [hag, if_true] at hq
 exact ⟨⟨run_eqGuard_agg W .eql t p q _ _ hg, by rw [run_eql_struct, hq]; rfl⟩, ⟨run_eqGuard_agg W .neq t p q _ _ hg, by rw [run_neq_struct, hq]; rfl⟩⟩
theorem sound_ptrNil {op : BinOp} {t u : TypeId} {x y : Operand} (hP : ∀ t, t ∈ G.ptrs → P.underlying t = some (.pointer (P.pointee t))) (ho : o.op = .binOp op t x y u) {e e' : Env} {a : Act} {W : World} {g : Gh} {K : Act → World → Prop} {Q : Exit → Act → World → Prop}
  (h : St w0 T f0 G.n e a W g) (hd : dstOk G.n o.dst = true) {p : Option Addr} (hr : (ptrNil G o.dst op t p.isNone).run e some = some e') (hK : ∀ a' W' g', St w0 T f0 G.n e' a' W' g' → K a' W') (hx : a.eval x = .pointer p) (hy : a.eval y = .pointer none) : o.wp P a W K Q := by
 unfold ptrNil at hr
 cases hc : G.ptrs.contains t <;> simp only [hc, cond_true, cond_false] at hr
 ·simp [Prog.run] at hr
 have hu := hP t (by simpa using hc)
 split at hr
 ·exact value_put h hd hr rfl rfl (bool_dat g W _) (by simp only [execOp, ho, hx, hy, eqGuard_at_pointer, Sem.run_bind, Sem.run_pure, Result.andThen_ok, run_eql_pointer_nil W t _ hu]) hK
 ·exact value_put h hd hr rfl rfl (bool_dat g W _) (by simp only [execOp, ho, hx, hy, eqGuard_at_pointer, Sem.run_bind, Sem.run_pure, Result.andThen_ok, run_neq_pointer_nil W t _ hu]) hK
 ·simp [Prog.run] at hr
theorem run_equalIn_slice_nil' (W : World) (d : Nat) (t e : TypeId) (a : Option Addr) (l c : Nat) (h : P.underlying t = some (.slice e)) : (Op.equalIn (d + 1) t (.slice a l c) (.slice none 0 0)).run P W = .ok a.isNone W := by
 cases a <;> simp [Op.equalIn, run_underlying h]
theorem run_eql_slice_nil' (t e : TypeId) (a : Option Addr) (l c : Nat) (h : P.underlying t = some (.slice e)) (W : World) : (binOp .eql t (.slice a l c) (.slice none 0 0)).run P W = .ok (.bool a.isNone) W := by
 show (do pure (Value.bool (← Op.equal t (.slice a l c) (.slice none 0 0))) : Sem Value).run P W = _
 have := run_equalIn_slice_nil' W 9999 t e a l c h
 simp only [Sem.run_bind, Op.equal]
 rw [show Op.maxDepth = 9999 + 1 from rfl, this]
 rfl
theorem run_neq_slice_nil' (t e : TypeId) (a : Option Addr) (l c : Nat) (h : P.underlying t = some (.slice e)) (W : World) : (binOp .neq t (.slice a l c) (.slice none 0 0)).run P W = .ok (.bool (!a.isNone)) W := by
 show (do pure (Value.bool (!(← Op.equal t (.slice a l c) (.slice none 0 0)))) : Sem Value).run P W = _
 have := run_equalIn_slice_nil' W 9999 t e a l c h
 simp only [Sem.run_bind, Op.equal]
 rw [show Op.maxDepth = 9999 + 1 from rfl, this]
 rfl
theorem sound_binOp {op : BinOp} {t u : TypeId} {x y : Operand} (hG : CtxTys P G) (hP : ∀ t, t ∈ G.ptrs → P.underlying t = some (.pointer (P.pointee t))) (hB : look t G.ty = some .bool → P.underlying t = some .bool) (hE : ∀ T, look t G.ty = some T → EqOk P t T) (ho : o.op = .binOp op t x y u) : Sound P G w0 T f0 o := by
 intro e e' a W g K Q h hd hr hK
 simp only [opV, ho] at hr
 obtain ⟨p, hr1, hdx, -⟩ := getV_sound h hr
 obtain ⟨q, hr2, hdy, -⟩ := getV_sound h hr1
 clear hr hr1
 have hr := hr2
 clear hr2
 split at hr
 ·rename_i b
  obtain ⟨-, -, A, m, c, hx, hb⟩ := hdx
  have hy : a.eval y = .slice none 0 0 := hdy
  unfold slNil at hr
  split at hr
  ·rename_i el r hty
   have hu := (hG _ _ hty).sl_und
   have hAn : A.isNone = !b := by rw [← hb]; cases A <;> rfl
   split at hr
   ·exact value_put h hd hr rfl rfl (bool_dat g W _) (by simp only [execOp, ho, hx, hy, eqGuard_at_slice, Sem.run_bind, Sem.run_pure, Result.andThen_ok, run_eql_slice_nil' t el A m c hu W, hAn]) hK
   ·exact value_put h hd hr rfl rfl (bool_dat g W _) (by simp only [execOp, ho, hx, hy, eqGuard_at_slice, Sem.run_bind, Sem.run_pure, Result.andThen_ok, run_neq_slice_nil' t el A m c hu W, hAn, Bool.not_not]) hK
   ·simp [Prog.run] at hr
  ·simp [Prog.run] at hr
 ·exact sound_ptrNil (p := some _) hP ho h hd hr hK hdx hdy
 ·obtain ⟨ad, hx, -⟩ := hdx
  exact sound_ptrNil (p := some ad) hP ho h hd hr hK hx hdy
 ·exact sound_ptrNil (p := none) hP ho h hd hr hK hdx hdy
 rename_i hnf hnb hne hnn
 clear hnf hnb hne hnn
 unfold binP at hr
 split at hr
 ·rename_i k m _ k' m' _
  have hx := int_of_dat hdx
  have hy := int_of_dat hdy
  have ex : ∀ v, (binOp op t (.int k m) (.int k' m')).run P W = .ok v W → (execOp a.eval o).run P W = .ok (.value v) W := fun v hv => by
   simp [execOp, ho, hx, hy, eqGuard_at_int, hv]
  split at hr
  ·split at hr
   ·rename_i ok r hb
    obtain ⟨hok, hr⟩ := chk_run hr
    exact value_put h hd hr rfl rfl (int_dat g W k r) (ex _ (run_shift (.inl rfl) hb hok W)) hK
   ·simp [Prog.run] at hr
  ·split at hr
   ·rename_i ok r hb
    obtain ⟨hok, hr⟩ := chk_run hr
    exact value_put h hd hr rfl rfl (int_dat g W k r) (ex _ (run_shift (.inr rfl) hb hok W)) hK
   ·simp [Prog.run] at hr
  ·split at hr
   ·rename_i hk
    subst hk
    split at hr
    ·rename_i r hc
     exact value_put h hd hr rfl rfl (bool_dat g W r) (ex _ (run_cmp hc W)) hK
    ·split at hr
     ·rename_i ok r hb
      obtain ⟨hok, hr⟩ := chk_run hr
      exact value_put h hd hr rfl rfl (int_dat g W k r) (ex _ (run_intBin hb hok W)) hK
     ·simp [Prog.run] at hr
   ·simp [Prog.run] at hr
 ·rename_i s _ s' _
  have hx := str_of_dat hdx
  have hy := str_of_dat hdy
  split at hr
  ·obtain ⟨hok, hr⟩ := chk_run hr
   have hlt : ¬ (9223372036854775807 : Int) < (s.size : Int) + s'.size := by have := of_decide_eq_true hok; omega
   exact value_put h hd hr rfl rfl (val_dat (t := .str) (v := .string (s ++ s')) rfl rfl) (by simp [execOp, ho, hx, hy, eqGuard_at_string, binOp, Op.stringOp, hlt]) hK
  ·exact value_put h hd hr rfl rfl (bool_dat g W _) (by simp [execOp, ho, hx, hy, eqGuard_at_string, binOp, Op.stringOp]) hK
  ·exact value_put h hd hr rfl rfl (bool_dat g W _) (by simp [execOp, ho, hx, hy, eqGuard_at_string, binOp, Op.stringOp]) hK
  ·simp [Prog.run] at hr
 ·rename_i b1 _ b2 _
  have hx := bool_of_dat hdx
  have hy := bool_of_dat hdy
  split at hr
  ·have hu := hB (by assumption)
   exact value_put h hd hr rfl rfl (bool_dat g W _) (by simp only [execOp, ho, hx, hy, eqGuard_at_bool, Sem.run_bind, Sem.run_pure, Result.andThen_ok, run_eq_bool hu]) hK
  ·have hu := hB (by assumption)
   exact value_put h hd hr rfl rfl (bool_dat g W _) (by simp only [execOp, ho, hx, hy, eqGuard_at_bool, Sem.run_bind, Sem.run_pure, Result.andThen_ok, run_ne_bool hu]) hK
  ·simp [Prog.run] at hr
 ·rename_i cs ds
  split at hr
  ·rename_i T' hT
   cases hz : (T'.isAgg && Nat.ble 1 T'.sz) <;> simp only [hz, cond_true, cond_false] at hr
   ·simp [Prog.run] at hr
   simp only [Bool.and_eq_true] at hz
   have hsz := Nat.le_of_ble_eq_true hz.2
   split at hr
   ·rename_i xa ya hxa hya
    obtain ⟨vs, hx, hcx, -⟩ := hdx
    obtain ⟨us, hy, hcy, -⟩ := hdy
    have rx := Ty.build_all hxa hcx
    have ry := Ty.build_all hya hcy
    split at hr
    ·rename_i r hb
     exact value_put h hd hr rfl rfl (bool_dat g W r) (by
      obtain ⟨⟨h1, h2⟩, -⟩ := hE T' hT xa ya r _ _ g.fix W hb rx ry hz.1 hsz x y
      simp only [Array.toArray_toList] at h1 h2
      simp [execOp, ho, hx, hy, h1, h2]) hK
    ·rename_i r hb
     exact value_put h hd hr rfl rfl (bool_dat g W (!r)) (by
      obtain ⟨-, ⟨h1, h2⟩⟩ := hE T' hT xa ya r _ _ g.fix W hb rx ry hz.1 hsz x y
      simp only [Array.toArray_toList] at h1 h2
      simp [execOp, ho, hx, hy, h1, h2]) hK
    ·simp [Prog.run] at hr
   ·simp [Prog.run] at hr
  ·simp [Prog.run] at hr
 ·simp [Prog.run] at hr
end
end Go.PM
