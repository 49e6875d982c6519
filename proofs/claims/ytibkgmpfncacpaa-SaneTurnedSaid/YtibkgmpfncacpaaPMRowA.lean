/- PM: operations on rows that may be written, sound. -/
import Derived.Test.YtibkgmpfncacpaaPMMap
import Derived.Laws.MakeOwn
import Derived.Lib.AppendZeros
namespace Go.PM
open Go
section
variable {P : Program} {G : Ctx} {w0 : World} {T : Nat → Prop} {f0 : F0} {n : Nat} {e e' : Env} {a : Act} {W : World} {g : Gh} {o : Oper} {K : Act → World → Prop} {Q : Exit → Act → World → Prop}
theorem put_get {α : Type} {l us : List α} {lo j : Nat} {u : α} (hl : lo + us.length ≤ l.length) (h : (l.take lo ++ us ++ l.drop (lo + us.length))[j]? = some u) :
  (lo ≤ j ∧ j < lo + us.length ∧ us[j - lo]? = some u) ∨ ((j < lo ∨ lo + us.length ≤ j) ∧ l[j]? = some u) := by
 have htl : (l.take lo).length = lo := by rw [List.length_take]; omega
 rcases Nat.lt_or_ge j lo with hlt | hge
 ·rw [List.append_assoc, List.getElem?_append_left (by omega), List.getElem?_take, if_pos hlt] at h
  exact .inr ⟨.inl hlt, h⟩
 ·rw [List.append_assoc, List.getElem?_append_right (by omega), htl] at h
  rcases Nat.lt_or_ge (j - lo) us.length with hlt | hge2
  ·rw [List.getElem?_append_left hlt] at h
   exact .inl ⟨hge, by omega, h⟩
  ·rw [List.getElem?_append_right hge2, List.getElem?_drop] at h
   rw [show lo + us.length + (j - lo - us.length) = j by omega] at h
   exact .inr ⟨.inr (by omega), h⟩
theorem get_put {α : Type} {l us : List α} {lo j : Nat} {u : α} (hl : lo + us.length ≤ l.length) (h : (lo ≤ j ∧ j < lo + us.length ∧ us[j - lo]? = some u) ∨ ((j < lo ∨ lo + us.length ≤ j) ∧ l[j]? = some u)) :
  (l.take lo ++ us ++ l.drop (lo + us.length))[j]? = some u := by
 have htl : (l.take lo).length = lo := by rw [List.length_take]; omega
 rcases Nat.lt_or_ge j lo with hlt | hge
 ·rw [List.append_assoc, List.getElem?_append_left (by omega), List.getElem?_take, if_pos hlt]
  rcases h with h | h
  ·omega
  ·exact h.2
 ·rw [List.append_assoc, List.getElem?_append_right (by omega), htl]
  rcases Nat.lt_or_ge (j - lo) us.length with hlt | hge2
  ·rw [List.getElem?_append_left hlt]
   rcases h with h | h
   ·exact h.2.2
   ·omega
  ·rw [List.getElem?_append_right hge2, List.getElem?_drop, show lo + us.length + (j - lo - us.length) = j by omega]
   rcases h with h | h
   ·omega
   ·exact h.2
theorem FrOk.free {W : World} {b : Nat} {cur : Array Value} {el : TypeId} {fr : Nat × Nat} (h : W.heap[b]? = some (.cells cur el fr)) (hf : FrOk fr cur.size) {o : Nat} (ho : o < cur.size) : W.frozen? ⟨b, o, none⟩ = false := by
 obtain ⟨lo, hi⟩ := fr
 simp only [World.frozen?, h, Bool.and_eq_false_iff, decide_eq_false_iff_not]
 rcases hf with hf | hf <;> simp only at hf <;> omega
theorem run_storeRow (P : Program) (g o : Nat) (t : TypeId) (fz : Nat × Nat) : ∀ (vs : List Value) (i : Nat) (cur : Array Value) (w : World), w.heap[g]? = some (.cells cur t fz) → FrOk fz cur.size → o + i + vs.length ≤ cur.size → (∀ v ∈ vs, v.oneCell' = true) →
  (storeCells ⟨g, o, none⟩ vs i).run P w = .ok () (w.setRow g (cur.toList.take (o + i) ++ vs ++ cur.toList.drop (o + i + vs.length)).toArray)
 | [], i, cur, w, hg, _, _, _ => by
  simp only [storeCells, List.append_nil, List.length_nil, Nat.add_zero, List.take_append_drop, Array.toArray_toList]
  rw [setRow_self w g cur t fz hg]
  rfl
 | v :: rest, i, cur, w, hg, hfz, hl, h1 => by
  have hi : o + i < cur.size := by simp at hl; omega
  have hadd : (⟨g, o, none⟩ : Addr).add i = ⟨g, o + i, none⟩ := by unfold Addr.add; split <;> simp_all
  have hcell : w.cell? ⟨g, o + i, none⟩ = some cur[o + i] := by simp [World.cell?, hg, hi]
  have hfro : w.frozen? ⟨g, o + i, none⟩ = false := FrOk.free hg hfz hi
  have hst : (store ((⟨g, o, none⟩ : Addr).add i) v).run P w = .ok () (w.setRow g (cur.setIfInBounds (o + i) v)) := by
   rw [hadd, run_store P w _ v _ (h1 v (by simp)), hcell]
   simp [hfro, setCell_eq_setRow w g (o + i) cur t fz v hg]
  have ih := run_storeRow P g o t fz rest (i + 1) (cur.setIfInBounds (o + i) v) (w.setRow g (cur.setIfInBounds (o + i) v)) (setRow_heap w g cur _ t _ hg) (by simpa using hfz) (by simp at hl ⊢; omega) (fun x hx => h1 x (by simp [hx]))
  simp only [storeCells, Sem.run_bind, hst, Result.andThen_ok, ih, setRow_setRow]
  congr 3
  have e := list_seg_step cur.toList (o + i) v rest (by simp at hl ⊢; omega)
  simpa [Array.toList_setIfInBounds, Nat.add_assoc] using e
theorem RowBlk.set {W : World} {b : Nat} {cur nc : Array Value} {e : TypeId} (h : RowBlk W b cur e) (hs : nc.size = cur.size) : RowBlk (W.setRow b nc) b nc e := by
 obtain ⟨fr, h1, h2⟩ := h
 exact ⟨fr, setRow_heap W b cur nc e fr h1, by rw [hs]; exact h2⟩
theorem zero_cut {r : Ty} (hp : r.plain = true) {z : Array Value} (hz : z.toList = zeroCells r) {len i : Nat} (hi : i < len) :
  (((Array.range (len * r.sz)).map fun k => z[k % z.size]!).toList.drop (i * r.sz)).take r.sz = zeroCells r := by
 have hzl : z.size = r.sz := by have := (zero_rep (fun _ _ => False) default r hp).len; rw [← hz] at this; simpa using this
 have hb : i * r.sz + r.sz ≤ len * r.sz := by rw [← Nat.succ_mul]; exact Nat.mul_le_mul_right _ hi
 rw [← hz]
 apply List.ext_getElem?
 intro j
 rw [List.getElem?_take]
 by_cases hj : j < r.sz
 ·rw [if_pos hj, List.getElem?_drop]
  have h1 : i * r.sz + j < len * r.sz := by omega
  have h2 : (i * r.sz + j) % z.size = j := by rw [hzl, Nat.add_comm, Nat.add_mul_mod_self_right, Nat.mod_eq_of_lt hj]
  have h3 : j < z.size := by omega
  simp only [Array.toList_map, Array.toList_range, List.getElem?_map, List.getElem?_range h1, Option.map_some, h2]
  rw [getElem!_pos z j h3]
  simp [h3]
 ·rw [if_neg hj, List.getElem?_eq_none (by simp; omega)]
theorem St.madeRow' (h : St w0 T f0 n e a W g) (W1 : World) (h1 : W1.heap = W.heap) (ho : W1.os = W.os) (ht : W1.tape = W.tape) (hou : W1.output = W.output) (cells : Array Value) (el : TypeId) {r : Ty} {xs : List r.D} {cs : List Value} {c : Nat} (hz : 0 < r.sz)
  (hr : Rows g.fix W r xs cs) (hcell : ∀ (k : Nat) u, cs[k]? = some u → cells[k]? = some u) (hc : xs.length ≤ c) (hl : xs.length ≤ lenMax) (hm : c ≤ maxLen) (hs : c * r.sz ≤ cells.size) :
  ∃ g', St w0 T f0 n e a (W1.alloc (.cells cells el)) g' ∧ RowAt g'.fix g'.own (W1.alloc (.cells cells el)) (.arg 0) (.slice (some ⟨W.heap.size, 0, none⟩) xs.length c) el r xs ∧ RowBlk (W1.alloc (.cells cells el)) W.heap.size cells el := by
 obtain ⟨h', hmv, hnew⟩ := h.newRow W1 h1 ho ht hou cells el 0 (.arg 0)
 refine ⟨_, h', ⟨_, c, rfl, ⟨hc, hl⟩, .inr ⟨W.heap.size, 0, cells, cs, rfl, .plain hnew, by simp, fun oo hoo => ?_, hm, hz, by omega, hr.mono hmv.fixed, fun k u hu => by rw [Nat.zero_add]; exact hcell k u hu⟩⟩, .plain hnew⟩
 rcases hoo with hoo | ⟨_, hoo⟩
 ·exact absurd (h.fixLt _ _ hoo) (by omega)
 ·omega
theorem St.madeRow (h : St w0 T f0 n e a W g) (W1 : World) (h1 : W1.heap = W.heap) (ho : W1.os = W.os) (ht : W1.tape = W.tape) (hou : W1.output = W.output) (cells : Array Value) (el : TypeId) {r : Ty} {xs : List r.D} {cs : List Value} {c : Nat} (hz : 0 < r.sz)
  (hr : Rows g.fix W r xs cs) (hcell : ∀ (k : Nat) u, cs[k]? = some u → cells[k]? = some u) (hc : xs.length ≤ c) (hl : xs.length ≤ lenMax) (hm : c ≤ maxLen) (hs : c * r.sz ≤ cells.size) :
  ∃ g', St w0 T f0 n e a (W1.alloc (.cells cells el)) g' ∧ RowAt g'.fix g'.own (W1.alloc (.cells cells el)) (.arg 0) (.slice (some ⟨W.heap.size, 0, none⟩) xs.length c) el r xs := by
 obtain ⟨g', k1, k2, -⟩ := h.madeRow' W1 h1 ho ht hou cells el hz hr hcell hc hl hm hs
 exact ⟨g', k1, k2⟩
theorem St.madeRow2 (h : St w0 T f0 n e a W g) (W1 : World) (h1 : W1.heap = W.heap) (ho : W1.os = W.os) (ht : W1.tape = W.tape) (hou : W1.output = W.output) (cells : Array Value) (el : TypeId) {r : Ty} {xs : List r.D} {cs : List Value} {c : Nat} (hz : 0 < r.sz)
  (hr : Rows g.fix W r xs cs) (hcell : ∀ (k : Nat) u, cs[k]? = some u → cells[k]? = some u) (hc : xs.length ≤ c) (hl : xs.length ≤ lenMax) (hm : c ≤ maxLen) (hs : c * r.sz ≤ cells.size) :
  ∃ g', St w0 T f0 n e a (W1.alloc (.cells cells el)) g' ∧ RowAt g'.fix g'.own (W1.alloc (.cells cells el)) (.arg 0) (.slice (some ⟨W.heap.size, 0, none⟩) xs.length c) el r xs ∧ g'.bx = g.bx ∧ Move (fun _ => False) W (W1.alloc (.cells cells el)) g g' := by
 obtain ⟨h', hmv, hnew⟩ := h.newRow W1 h1 ho ht hou cells el 0 (.arg 0)
 refine ⟨_, h', ⟨_, c, rfl, ⟨hc, hl⟩, .inr ⟨W.heap.size, 0, cells, cs, rfl, .plain hnew, by simp, fun oo hoo => ?_, hm, hz, by omega, hr.mono hmv.fixed, fun k u hu => by rw [Nat.zero_add]; exact hcell k u hu⟩⟩, rfl, hmv⟩
 rcases hoo with hoo | ⟨_, hoo⟩
 ·exact absurd (h.fixLt _ _ hoo) (by omega)
 ·omega
theorem zero_nest (fix : Nat → Nat → Prop) (W : World) : ∀ r : Ty, r.plain = true → Rep fix W r.nest r.nest.zero (zeroCells r)
 | .unit, _ => rfl
 | .int _, _ => rfl
 | .bool, _ => rfl
 | .str, _ => rfl
 | .sl _ _, _ => ⟨_, rfl, rfl⟩
 | .pair a b, h => by
  simp only [Ty.plain, Bool.and_eq_true] at h
  exact ⟨_, _, rfl, zero_nest fix W a h.1, zero_nest fix W b h.2⟩
 | .any, _ => ⟨_, rfl, rfl⟩
theorem nest_sz : ∀ r : Ty, r.nest.sz = r.sz
 | .pair a b => by simp [Ty.nest, Ty.sz, nest_sz a, nest_sz b]
 | .unit => rfl
 | .int _ => rfl
 | .bool => rfl
 | .str => rfl
 | .sl _ _ => rfl
 | .any => rfl
 | .clo _ _ => rfl
 | .osl _ _ => rfl
theorem unest_sz : ∀ r : Ty, r.unest.sz = r.sz
 | .pair a b => by simp [Ty.unest, Ty.sz, unest_sz a, unest_sz b]
 | .unit => rfl
 | .int _ => rfl
 | .bool => rfl
 | .str => rfl
 | .sl _ _ => rfl
 | .any => rfl
 | .clo _ _ => rfl
 | .osl _ _ => rfl
theorem split_len : ∀ (t : Ty) (x : t.D), (t.split x).length = t.sz
 | .pair a b, x => by simp [Ty.split, Ty.sz, split_len a, split_len b]
 | .unit, _ => rfl
 | .int _, _ => rfl
 | .bool, _ => rfl
 | .str, _ => rfl
 | .sl _ _, _ => rfl
 | .any, _ => rfl
 | .clo _ _, _ => rfl
 | .osl _ _, _ => rfl
theorem nest_nil : ∀ (r : Ty), r.plain = true → ∀ (o : Nat) e2 r2 (y : List r2.D) tip, (r.nest.split r.nest.zero)[o]? = some ⟨.osl e2 r2, y, tip⟩ → y = [] ∧ (zeroCells r)[o]? = some (.slice none 0 0)
 | .unit, _, o, e2, r2, y, tip, h => by simp [Ty.nest, Ty.split] at h
 | .int _, _, o, e2, r2, y, tip, h => by
  cases o with
  | zero => simp [Ty.nest, Ty.split] at h
  | succ o => simp [Ty.nest, Ty.split] at h
 | .bool, _, o, e2, r2, y, tip, h => by
  cases o with
  | zero => simp [Ty.nest, Ty.split] at h
  | succ o => simp [Ty.nest, Ty.split] at h
 | .str, _, o, e2, r2, y, tip, h => by
  cases o with
  | zero => simp [Ty.nest, Ty.split] at h
  | succ o => simp [Ty.nest, Ty.split] at h
 | .any, _, o, e2, r2, y, tip, h => by
  cases o with
  | zero => simp [Ty.nest, Ty.split] at h
  | succ o => simp [Ty.nest, Ty.split] at h
 | .sl e r, _, o, e2, r2, y, tip, h => by
  cases o with
  | zero =>
   have h : some (DV.mk (.osl e r) [] false) = some ⟨.osl e2 r2, y, tip⟩ := h
   injection h with h
   injection h with h1 h2 _
   injection h1 with h1 h3
   subst h1; subst h3
   exact ⟨(eq_of_heq h2).symm, rfl⟩
  | succ o => simp [Ty.nest, Ty.split] at h
 | .clo _ _, hp, _, _, _, _, _, _ => by simp [Ty.plain] at hp
 | .osl _ _, hp, _, _, _, _, _, _ => by simp [Ty.plain] at hp
 | .pair a b, hp, o, e2, r2, y, tip, h => by
  simp only [Ty.plain, Bool.and_eq_true] at hp
  have hz : (zeroCells a).length = a.sz := (zero_nest (fun _ _ => False) default a hp.1).len.trans (nest_sz a)
  have hl : (a.nest.split a.nest.zero).length = a.sz := (split_len _ _).trans (nest_sz a)
  have h : (a.nest.split a.nest.zero ++ b.nest.split b.nest.zero)[o]? = some ⟨.osl e2 r2, y, tip⟩ := h
  show _ ∧ (zeroCells a ++ zeroCells b)[o]? = _
  rcases Nat.lt_or_ge o a.sz with ho | ho
  ·rw [List.getElem?_append_left (by omega)] at h
   obtain ⟨q1, q2⟩ := nest_nil a hp.1 o e2 r2 y tip h
   exact ⟨q1, by rw [List.getElem?_append_left (by omega)]; exact q2⟩
  ·rw [List.getElem?_append_right (by omega), hl] at h
   obtain ⟨q1, q2⟩ := nest_nil b hp.2 _ e2 r2 y tip h
   exact ⟨q1, by rw [List.getElem?_append_right (by omega), hz]; exact q2⟩
theorem RowAt.nil (fix : Nat → Nat → Prop) (own : Nat → Option Lab) (W : World) (q : Lab) (el : TypeId) (r : Ty) : RowAt fix own W q (.slice none 0 0) el r [] :=
 ⟨none, 0, rfl, ⟨Nat.le_refl _, Nat.zero_le _⟩, .inl ⟨rfl, rfl⟩⟩
theorem isRowDst_some {dst : Option Nat} {d : Nat} (h : isRowDst G dst = some d) : dst = some d := by
 unfold isRowDst at h
 split at h
 ·rename_i d'
  cases hc : G.rows.contains d' <;> simp only [hc, cond_true, cond_false] at h <;> cases h
  rfl
 ·cases h
theorem fin_row (_ : St w0 T f0 G.n e a W g) (hd : dstOk G.n o.dst = true) {d : Nat} (hdst : o.dst = some d) {W' : World} {g' : Gh} {e1 : Env} (h' : St w0 T f0 G.n e1 a W' g') {q : Lab} (hq : Free e1 q) {v : Value} {el : TypeId} {r : Ty} {xs : List r.D} (hrow : RowAt g'.fix g'.own W' q v el r xs)
  (hex : (execOp a.eval o).run P W = .ok (.value v) W') (hr : (putRow d el r xs).run e1 some = some e') (hK : ∀ a' W' g', St w0 T f0 G.n e' a' W' g' → K a' W') : o.wp P a W K Q := by
 obtain ⟨g2, h2⟩ := putRow_sound h' (dst_lt hd d hdst) hq hrow hr
 refine wp_value hex ?_
 rw [hdst]
 exact hK _ _ _ h2
theorem moveRow_sound (h : St w0 T f0 G.n e a W g) (hd : dstOk G.n o.dst = true) {d : Nat} (hdst : o.dst = some d) {x : Operand} {t : TypeId} (hex : (execOp a.eval o).run P W = .ok (.value (a.eval x)) W) (hr : (moveRow G d x t).run e some = some e')
  (hK : ∀ a' W' g', St w0 T f0 G.n e' a' W' g' → K a' W') : o.wp P a W K Q := by
 obtain ⟨pv, hr1, hdat, hp⟩ := getV_sound h hr
 split at hr1
 ·rename_i j hv
  obtain ⟨el, r, xs, ver, hb, hr2⟩ := seeRow_run hr1
  cases hc : G.bxs.contains j <;> simp only [hc, cond_true, cond_false] at hr2
  ·simp [Prog.run] at hr2
  simp only [Prog.run] at hr2
  obtain ⟨h1, -, hq⟩ := h.leave hb
  have hrow := (hdr_row h hp hb).2
  exact fin_row h hd hdst h1 hq hrow hex hr2 hK
 ·split at hr1
  ·rename_i el r _
   have hv : a.eval x = .slice none 0 0 := hdat
   rw [hv] at hex
   exact fin_row h hd hdst h (free_arg e 0) (RowAt.nil _ _ _ _ _ _) hex hr1 hK
  ·simp [Prog.run] at hr1
 ·simp [Prog.run] at hr1
theorem sound_makeRow {t : TypeId} {len cap : Operand} (hG : CtxTys P G) (ho : o.op = .makeSlice t len cap) (h : St w0 T f0 G.n e a W g) (hd : dstOk G.n o.dst = true) {d : Nat} (hdst : o.dst = some d) {el : TypeId} {r : Ty} (hty : look t G.ty = some (.sl el r))
  (hr : (getInt len fun l => getInt cap fun c => Prog.chk (decide (0 ≤ l) && decide (l ≤ c) && decide (c < rowMax)) (bif G.nests.contains d then nestRow d el r l.toNat else putRow d el r (List.replicate l.toNat r.zero))).run e some = some e')
  (hK : ∀ a' W' g', St w0 T f0 G.n e' a' W' g' → K a' W') : o.wp P a W K Q := by
 obtain ⟨k1, l, hr1, hl⟩ := getInt_sound h hr
 obtain ⟨k2, c, hr2, hc⟩ := getInt_sound h hr1
 obtain ⟨hb, hr3⟩ := chk_run hr2
 simp only [Bool.and_eq_true, decide_eq_true_eq] at hb
 obtain ⟨⟨b1, b2⟩, b3⟩ := hb
 have htk := hG _ _ hty
 have hu := htk.sl_und
 obtain ⟨i, z, hi, hsz, hzz, hzc, hpos, hb1, hb2⟩ := htk.sl_info
 have hrm : rowMax = 549755813888 := rfl
 rw [hrm] at b3
 obtain ⟨lm, rfl⟩ := Int.eq_ofNat_of_zero_le b1
 obtain ⟨cm, rfl⟩ := Int.eq_ofNat_of_zero_le (Int.le_trans b1 b2)
 have hbytes : cm * i.bytes ≤ 140737488355328 := Nat.le_trans (Nat.mul_le_mul (show cm ≤ 549755813888 by omega) hb2) (by decide)
 have hrun := run_make (P := P) W t el i z hu hi hzz k1 k2 (lm : Int) (cm : Int) b1 b2 (by
  have h1 : ((i.bytes * cm : Nat) : Int) ≤ 281474976710656 := by rw [Nat.mul_comm]; omega
  rwa [Int.natCast_mul] at h1) (by omega)
 simp only [Int.toNat_natCast] at hrun hr3
 have hex : (execOp a.eval o).run P W = .ok (.value (.slice (some ⟨W.heap.size, 0, none⟩) lm cm)) (W.alloc (.cells (madeCells z.cells (cm * i.size)) el)) := by
  simp only [execOp, ho, hl, hc, Sem.run_bind, Sem.run_pure]
  rw [hrun]
  rfl
 have hpl := htk.sl_row.plain
 have hzl : z.cells.size = r.sz := by have := (zero_rep g.fix W r hpl).len; rw [← hzc] at this; simpa using this
 have hcell : ∀ (k : Nat) u, ((Array.range (lm * r.sz)).map fun k => z.cells[k % z.cells.size]!).toList[k]? = some u → (madeCells z.cells (cm * i.size))[k]? = some u := fun k u hu => by
  have hk : k < lm * r.sz := by have := (List.getElem?_eq_some_iff.1 hu).1; simpa using this
  have hk2 : k < cm * i.size := by
   rw [hsz]
   exact Nat.lt_of_lt_of_le hk (Nat.mul_le_mul_right _ (by omega))
  rw [← hu]
  simp [madeCells, hk, hk2]
 cases hn : G.nests.contains d <;> simp only [hn, cond_true, cond_false] at hr3
 case true =>
  have hz : Rows g.fix W r.nest (List.replicate lm r.nest.zero) ((Array.range (lm * r.sz)).map fun k => z.cells[k % z.cells.size]!).toList := by
   refine ⟨by simp [nest_sz], fun i x hx => ?_⟩
   have hi : i < lm := by have := (List.getElem?_eq_some_iff.1 hx).1; simpa using this
   have hx' : x = r.nest.zero := by
    have := (List.getElem?_eq_some_iff.1 hx).2
    simpa using this.symm
   subst hx'
   rw [nest_sz]
   rw [zero_cut hpl hzc hi]
   exact zero_nest _ _ _ hpl
  obtain ⟨g', h', hrow, hblk⟩ := h.madeRow' W rfl rfl rfl rfl (madeCells z.cells (cm * i.size)) el (c := cm) (by rw [nest_sz]; exact hpos) hz hcell (by simpa using b2) (by simp only [List.length_replicate, lenMax]; omega) (by simp only [maxLen]; omega) (by rw [size_madeCells, hsz, nest_sz]; exact Nat.le_refl _)
  rw [List.length_replicate] at hrow
  refine wp_value hex ?_
  rw [hdst]
  obtain ⟨hv, ver, g1, p1, p2, p3, p4⟩ := placeRow0_sound h' (dst_lt hd d hdst) (free_arg e 0) hrow (fun _ => .slice none 0 0) (fun own' how i' x hx o' e2 r2 y tip hy => by
   have hi : i' < lm := by have := (List.getElem?_eq_some_iff.1 hx).1; simpa using this
   have hx' : x = r.nest.zero := by
    have := (List.getElem?_eq_some_iff.1 hx).2
    simpa using this.symm
   subst hx'
   obtain ⟨rfl, q2⟩ := nest_nil r hpl o' e2 r2 y tip hy
   refine ⟨W.heap.size, 0, lm, cm, rfl, how _ _ _ _ rfl, ?_, RowAt.nil _ _ _ _ _ _⟩
   rw [hblk.cell, nest_sz, Nat.zero_add]
   have ho : o' < r.sz := by have := (List.getElem?_eq_some_iff.1 q2).1; rw [← hzc] at this; simpa [hzl] using this
   have hlt : i' * r.sz + o' < cm * i.size := by
    rw [hsz]
    have : i' * r.sz + r.sz ≤ cm * r.sz := by rw [← Nat.succ_mul]; exact Nat.mul_le_mul_right _ (by omega)
    omega
   have hmod : (i' * r.sz + o') % z.cells.size = o' := by rw [hzl, Nat.add_comm, Nat.add_mul_mod_self_right, Nat.mod_eq_of_lt ho]
   have hget : z.cells[o']! = .slice none 0 0 := by
    have hoz : o' < z.cells.size := by omega
    rw [getElem!_pos z.cells o' hoz]
    have : z.cells.toList[o']? = some (.slice none 0 0) := by rw [hzc]; exact q2
    simpa [hoz] using this
   simp [madeCells, hlt, hmod, hget]) hr3
  simp only [Prog.run, Option.some.injEq] at p1
  subst p1
  exact hK _ _ _ (p2.put (dst_lt hd d hdst) (pv := .hdr d hv) (v := .slice (some ⟨W.heap.size, 0, none⟩) lm cm) trivial (placed_hdr p4))
 have hz := zero_rows g.fix W r hpl z.cells hzc lm
 obtain ⟨g', h', hrow⟩ := h.madeRow W rfl rfl rfl rfl (madeCells z.cells (cm * i.size)) el (c := cm) hpos hz hcell (by simpa using b2) (by simp only [List.length_replicate, lenMax]; omega) (by simp only [maxLen]; omega) (by rw [size_madeCells, hsz]; exact Nat.le_refl _)
 rw [List.length_replicate] at hrow
 exact fin_row h hd hdst h' (free_arg e 0) hrow hex hr3 hK
theorem sound_buildRow {t : TypeId} {len : Nat} {parts : Array (Nat × Operand)} (hG : CtxTys P G) (ho : o.op = .buildSlice t len parts) (h : St w0 T f0 G.n e a W g) (hd : dstOk G.n o.dst = true) {d : Nat} (hdst : o.dst = some d) {el : TypeId} {r : Ty} (hty : look t G.ty = some (.sl el r)) (hlen : len * r.sz ≤ 65536)
  (hr : (buildRow r len parts.toList (List.replicate len r.zero) fun xs => putRow d el r xs).run e some = some e')
  (hK : ∀ a' W' g', St w0 T f0 G.n e' a' W' g' → K a' W') : o.wp P a W K Q := by
 have htk := hG _ _ hty
 have hu := htk.sl_und
 obtain ⟨i, z, hi, hsz, hzz, hzc, hpos, hb1, hb2⟩ := htk.sl_info
 have hrz : ∀ W, (zeroValue el).run P W = .ok z W := fun W => by simp [zeroValue, typeInfo, hi, hzz]
 obtain ⟨xs', Z', q1, q2, q3, q4⟩ := buildRow_sound h (len := len) parts.toList (List.replicate len r.zero) ((Array.range (len * r.sz)).map fun k => z.cells[k % z.cells.size]!) (zero_rows g.fix W r htk.sl_row.plain z.cells hzc len) (by simp) hr
 have hrun : (execOp a.eval o).run P W = .ok (.value (.slice (some ⟨W.heap.size, 0, none⟩) len len)) (W.alloc (.cells Z' el)) := by
  have hl2 : ¬ (len * r.sz > 2 ^ 24) := by omega
  have hmp : (parts.map fun (p : Nat × Operand) => (p.1, a.eval p.2)).toList = parts.toList.map fun p => (p.1, a.eval p.2) := by simp
  have key : (Instr.buildSlice t len (parts.map fun (p : Nat × Operand) => (p.1, a.eval p.2))).run P W = .ok (.slice (some ⟨W.heap.size, 0, none⟩) len len) (W.alloc (.cells Z' el)) := by
   unfold Instr.buildSlice
   rw [hmp]
   simp only [Sem.run_bind, run_underlying hu, Result.andThen_ok, htk.sl_row.run_size]
   rw [if_neg hl2]
   by_cases h0 : len * r.sz = 0
   ·rw [if_pos h0]
    simp only [pure_bind]
    rw [h0] at q1 ⊢
    have e1 : ∀ zz : Array Value, ((Array.range 0).map fun k => zz[k % zz.size]!) = #[] := fun zz => by simp
    rw [e1] at q1
    rw [e1, q1]
    rfl
   ·rw [if_neg h0]
    simp only [Sem.run_bind, Result.andThen_ok, pure_bind, hrz]
    rw [q1]
    rfl
  simp only [execOp, ho, Sem.run_bind, Sem.run_pure]
  rw [key]
  rfl
 have hlenle : len ≤ len * r.sz := Nat.le_mul_of_pos_right _ hpos
 obtain ⟨g', h', hrow⟩ := h.madeRow W rfl rfl rfl rfl Z' el (c := len) hpos q2 (fun k u hu => by simpa using hu) (by omega) (by rw [q3]; simp only [lenMax]; omega) (by simp only [maxLen]; omega) (by have := q2.1; rw [q3] at this; simp at this; omega)
 rw [q3] at hrow
 exact fin_row h hd hdst h' (free_arg e 0) hrow hrun q4 hK
theorem RowAt.cut {fix : Nat → Nat → Prop} {own : Nat → Option Lab} {q : Lab} {A : Option Addr} {c : Nat} {el : TypeId} {r : Ty} {xs : List r.D} (h : RowAt fix own W q (.slice A xs.length c) el r xs) (l hh m : Nat) (h1 : l ≤ hh) (h2 : hh ≤ xs.length) (h3 : hh ≤ m) (h4 : m ≤ c) :
  RowAt fix own W q (sliced A l hh m r.sz) el r ((xs.take hh).drop l) := by
 obtain ⟨A', c', e1, e2, e3⟩ := h
 injection e1 with q1 _ q3
 subst q1; subst q3
 have hlen : ((xs.take hh).drop l).length = hh - l := by rw [List.length_drop, List.length_take]; omega
 refine ⟨if m = l then A else A.map (·.add (l * r.sz)), m - l, by rw [hlen]; rfl, by rw [hlen]; exact ⟨by omega, by have := e2.2; omega⟩, ?_⟩
 rcases e3 with ⟨rfl, rfl⟩ | ⟨b, off, cur, cs, k1, k2, k3, k4, k5, k6, k7, k8, k9⟩
 ·exact .inl ⟨by split <;> rfl, by omega⟩
 ·subst k1
  have hsub : Rows fix W r ((xs.take hh).drop l) ((cs.take (hh * r.sz)).drop (l * r.sz)) := by
   refine ⟨by rw [hlen, List.length_drop, List.length_take, k8.1, Nat.min_eq_left (Nat.mul_le_mul_right _ h2), Nat.sub_mul], fun i x hx => ?_⟩
   rw [List.getElem?_drop, List.getElem?_take] at hx
   split at hx
   ·rename_i hlt
    have := k8.2 (l + i) x hx
    rw [List.drop_drop, ← Nat.add_mul, List.drop_take, List.take_take]
    have hle : (l + i) * r.sz + r.sz ≤ hh * r.sz := by rw [← Nat.succ_mul]; exact Nat.mul_le_mul_right _ hlt
    rw [Nat.min_eq_left (by omega)]
    exact this
   ·cases hx
  have hcell : ∀ (k : Nat) u, ((cs.take (hh * r.sz)).drop (l * r.sz))[k]? = some u → cur[off + l * r.sz + k]? = some u := fun k u hu => by
   rw [List.getElem?_drop, List.getElem?_take] at hu
   split at hu
   ·have := k9 _ u hu; rwa [← Nat.add_assoc] at this
   ·cases hu
  by_cases hml : m = l
  ·have hl0 : hh = l := by omega
   rw [if_pos hml]
   refine .inr ⟨b, off, cur, [], rfl, k2, k3, k4, by omega, k6, by rw [hml, Nat.sub_self, Nat.zero_mul]; have := Nat.le_trans (Nat.le_add_right _ _) k7; omega, ?_, fun k u hu => by simp at hu⟩
   have : (xs.take hh).drop l = [] := List.eq_nil_of_length_eq_zero (by rw [hlen]; omega)
   rw [this]; exact Rows.nil
  ·rw [if_neg hml]
   refine .inr ⟨b, off + l * r.sz, cur, _, by simp [add_none], k2, k3, k4, by omega, k6, ?_, hsub, hcell⟩
   have : (m - l) * r.sz + l * r.sz ≤ c * r.sz := by rw [← Nat.add_mul]; exact Nat.mul_le_mul_right _ (by omega)
   omega
theorem len_row {fix : Nat → Nat → Prop} {own : Nat → Option Lab} {q : Lab} {v : Value} {el : TypeId} {r : Ty} {xs : List r.D} (h : RowAt fix own W q v el r xs) : ∃ A c, v = .slice A xs.length c ∧ xs.length ≤ c := by
 obtain ⟨A, c, h1, h2, -⟩ := h
 exact ⟨A, c, h1, h2.1⟩
theorem eqTy_look {t : TypeId} {T : Ty} (h : (match look t G.ty with | some T' => eqTy T' T | none => false) = true) : look t G.ty = some T := by
 split at h
 ·rename_i T' hT; rw [hT, eqTy_iff.1 h]
 ·cases h
theorem sound_sliceRow {t : TypeId} {x : Operand} {lo hi : Option Operand} (hG : CtxTys P G) (ho : o.op = .slice t x lo hi none) (h : St w0 T f0 G.n e a W g) (hd : dstOk G.n o.dst = true) {d : Nat} (hdst : o.dst = some d) {j hv : Nat} (hp : PtrOk e g (.hdr j hv) (a.eval x))
  (hr : (seeRow j hv fun e r xs ver => .chk (match look t G.ty with | some T => eqTy T (.sl e r) | none => false) <| getOptInt lo 0 fun l => getOptInt hi xs.length fun h =>
    .chk (decide (0 ≤ l) && decide (l ≤ h) && decide (h ≤ xs.length) && G.bxs.contains j) <| .set (.box j) (.gone hv (ver + 1)) (putRow d e r ((xs.take h.toNat).drop l.toNat))).run e some = some e')
  (hK : ∀ a' W' g', St w0 T f0 G.n e' a' W' g' → K a' W') : o.wp P a W K Q := by
 obtain ⟨el, r, xs, ver, hb, hr1⟩ := seeRow_run hr
 obtain ⟨ht, hr2⟩ := chk_run hr1
 have hty := eqTy_look ht
 obtain ⟨l, hr3, hl⟩ := getOptInt_sound h hr2
 obtain ⟨hh, hr4, hhh⟩ := getOptInt_sound h hr3
 obtain ⟨hc, hr5⟩ := chk_run hr4
 simp only [Bool.and_eq_true, decide_eq_true_eq] at hc
 obtain ⟨⟨⟨b1, b2⟩, b3⟩, b4⟩ := hc
 have htk := hG _ _ hty
 have hu := htk.sl_und
 have hel : P.elem t = el := by simp [Program.elem, hu]
 have hu' : P.underlying t = some (.slice (P.elem t)) := by rw [hel]; exact hu
 have hrow := (hdr_row h hp hb).2
 obtain ⟨A, c, hv', hcl⟩ := len_row hrow
 obtain ⟨lm, rfl⟩ := Int.eq_ofNat_of_zero_le b1
 obtain ⟨hm, rfl⟩ := Int.eq_ofNat_of_zero_le (Int.le_trans b1 b2)
 have hrun : (Instr.slice t (.slice A xs.length c) (lo.map a.eval) (hi.map a.eval) none).run P W = .ok (sliced A lm hm c r.sz) W := by
  have hszr : (sizeOf (P.elem t)).run P W = .ok r.sz W := by rw [hel]; exact htk.sl_row.run_size W
  rcases hl with ⟨rfl, hl⟩ | ⟨y1, k1, rfl, hl⟩ <;> rcases hhh with ⟨rfl, hhh⟩ | ⟨y2, k2, rfl, hhh⟩
  ·have e1 : lm = 0 := by omega
   have e2 : hm = xs.length := by omega
   subst e1; subst e2
   show (Instr.slice t _ none none none).run P W = _
   rw [run_slice_all W t A xs.length c hu', hszr]; rfl
  ·have e1 : lm = 0 := by omega
   subst e1
   show (Instr.slice t _ none (some (a.eval y2)) none).run P W = _
   rw [hhh, run_slice_h W t A xs.length c hu' k2 hm (by omega) (by omega), hszr]; simp
  ·have e2 : hm = xs.length := by omega
   subst e2
   show (Instr.slice t _ (some (a.eval y1)) none none).run P W = _
   rw [hl, run_slice_l W t A xs.length c hu' k1 lm (by omega) (by omega), hszr]; simp
  ·show (Instr.slice t _ (some (a.eval y1)) (some (a.eval y2)) none).run P W = _
   rw [hl, hhh, run_slice_lh W t A xs.length c hu' k1 k2 lm hm (by omega) (by omega) (by omega), hszr]; simp
 simp only [Int.toNat_natCast, Prog.run] at hr5
 rw [hv'] at hrow
 obtain ⟨h1, -, hq⟩ := h.leave hb
 refine fin_row h hd hdst h1 hq (hrow.cut lm hm c (by omega) (by omega) (by omega) (Nat.le_refl _)) ?_ hr5 hK
 simp only [execOp, ho, hv', Sem.run_bind, Sem.run_pure]
 rw [run_sliceAt_slice W t _ _ _ _ hu', Option.map_none, hrun]
 rfl
theorem sound_clipRow {t : TypeId} {x hi mx : Operand} (hG : CtxTys P G) (ho : o.op = .slice t x none (some hi) (some mx)) (h : St w0 T f0 G.n e a W g) (hd : dstOk G.n o.dst = true) {d : Nat} (hdst : o.dst = some d) {j hv : Nat} (hp : PtrOk e g (.hdr j hv) (a.eval x))
  (hr : (seeRow j hv fun e r xs ver => .chk (match look t G.ty with | some T => eqTy T (.sl e r) | none => false) <| getInt hi fun h => getInt mx fun m =>
    .chk (decide (h = xs.length) && decide (m = xs.length) && G.bxs.contains j) <| .set (.box j) (.gone hv (ver + 1)) (putRow d e r xs)).run e some = some e')
  (hK : ∀ a' W' g', St w0 T f0 G.n e' a' W' g' → K a' W') : o.wp P a W K Q := by
 obtain ⟨el, r, xs, ver, hb, hr1⟩ := seeRow_run hr
 obtain ⟨ht, hr2⟩ := chk_run hr1
 have hty := eqTy_look ht
 obtain ⟨k1, hh, hr3, hhh⟩ := getInt_sound h hr2
 obtain ⟨k2, m, hr4, hm⟩ := getInt_sound h hr3
 obtain ⟨hc, hr5⟩ := chk_run hr4
 simp only [Bool.and_eq_true, decide_eq_true_eq] at hc
 obtain ⟨⟨b1, b2⟩, b4⟩ := hc
 subst b1; subst b2
 have htk := hG _ _ hty
 have hu := htk.sl_und
 have hel : P.elem t = el := by simp [Program.elem, hu]
 have hu' : P.underlying t = some (.slice (P.elem t)) := by rw [hel]; exact hu
 have hrow := (hdr_row h hp hb).2
 obtain ⟨A, c, hv', hcl⟩ := len_row hrow
 have hszr : (sizeOf (P.elem t)).run P W = .ok r.sz W := by rw [hel]; exact htk.sl_row.run_size W
 have hrun := run_slice_hm (P := P) W t A xs.length c hu' k1 k2 xs.length xs.length (by omega) (by omega) (by omega)
 simp only [Prog.run] at hr5
 rw [hv'] at hrow
 obtain ⟨h1, -, hq⟩ := h.leave hb
 have hcut := hrow.cut 0 xs.length xs.length (by omega) (by omega) (by omega) hcl
 rw [List.take_length, List.drop_zero] at hcut
 refine fin_row h hd hdst h1 hq hcut ?_ hr5 hK
 simp only [execOp, ho, hv', Sem.run_bind, Sem.run_pure, Option.map_none, Option.map_some, hhh, hm]
 rw [run_sliceAt_slice W t _ _ _ _ hu', hrun, hszr]
 simp
theorem run_convert_row {s e el : TypeId} (hu : P.underlying s = some (.slice e)) (he : P.underlying e = some (.int .u8)) {W : World} {b off n c : Nat} {cur : Array Value} {fr : Nat × Nat} (hb : W.heap[b]? = some (.cells cur el fr)) :
  (convert s s (.slice (some ⟨b, off, none⟩) n c)).run P W = .ok (.slice (some ⟨b, off, none⟩) n c) (W.freeze ⟨b, cur.size, none⟩ 1) := by
 have hs : W.shape? b = some (el, cur.size) := by simp [World.shape?, hb]
 simp [convert, run_underlying hu, run_underlying he, markStringish, shape, freeze, Sem.run, hs]
theorem freeze_row {W : World} {b : Nat} {el : TypeId} {cur : Array Value} (h : RowBlk W b cur el) :
  (W.freeze ⟨b, cur.size, none⟩ 1).heap.size = W.heap.size ∧ (∀ k, k ≠ b → (W.freeze ⟨b, cur.size, none⟩ 1).heap[k]? = W.heap[k]?) ∧ RowBlk (W.freeze ⟨b, cur.size, none⟩ 1) b cur el := by
 obtain ⟨⟨lo, hi⟩, hb, hf⟩ := h
 refine ⟨by simp [World.freeze], fun k hk => ?_, ?_⟩
 ·have hk' : ¬ b = k := fun h => hk h.symm
  simp [World.freeze, Array.getElem?_modify, hk']
 ·by_cases hlh : lo = hi
  ·exact ⟨(cur.size, cur.size + 1), by simp [World.freeze, Array.getElem?_modify, hb, hlh], .inr (Nat.le_refl _)⟩
  ·refine ⟨(min lo cur.size, max hi (cur.size + 1)), by simp [World.freeze, Array.getElem?_modify, hb, hlh], .inr ?_⟩
   rcases hf with hf | hf
   ·exact absurd hf hlh
   ·simp only at hf ⊢; omega
theorem sound_convRow {s t : TypeId} {x : Operand} (hG : CtxTys P G) (ho : o.op = .convert s t x) (h : St w0 T f0 G.n e a W g) (hd : dstOk G.n o.dst = true) {d : Nat} (hdst : o.dst = some d) {j hv : Nat} (hp : PtrOk e g (.hdr j hv) (a.eval x))
  (hr : (seeRow j hv fun e r xs ver => .chk (Nat.beq s t && (match look t G.ty with | some T => eqTy T (.sl e r) && eqTy r (.int .u8) | none => false)) <|
    .chk (decide (0 < xs.length) && G.bxs.contains j) <| .set (.box j) (.gone hv (ver + 1)) (putRow d e r xs)).run e some = some e') (hK : ∀ a' W' g', St w0 T f0 G.n e' a' W' g' → K a' W') : o.wp P a W K Q := by
 obtain ⟨el, r, xs, ver, hb, hr2⟩ := seeRow_run hr
 obtain ⟨ht, hr3⟩ := chk_run hr2
 obtain ⟨hl, hr4⟩ := chk_run hr3
 simp only [Bool.and_eq_true] at ht hl
 have hst := Nat.eq_of_beq_eq_true ht.1
 subst hst
 have ht2 := ht.2
 split at ht2
 case h_2 => cases ht2
 rename_i T' hT
 simp only [Bool.and_eq_true] at ht2
 have e1 := eqTy_iff.1 ht2.1
 have e2 := eqTy_iff.1 ht2.2
 subst e1
 have htk := hG _ _ hT
 have hu := htk.sl_und
 have he : P.underlying el = some (.int .u8) := by
  have := htk.sl_row
  subst e2
  exact this.int_und
 simp only [Prog.run] at hr4
 obtain ⟨h1, hrow, hq⟩ := h.leave hb
 have hhv := (hdr_row h hp hb).1
 obtain ⟨A, c, k1, k2, k3⟩ := hrow
 rcases k3 with ⟨rfl, rfl⟩ | ⟨b, off, cur, cs, rfl, m2, m3, m4, m5, m6, m7, m8, m9⟩
 ·have : 0 < xs.length := of_decide_eq_true hl.1
  have := k2.1
  omega
 obtain ⟨f1, f2, f3⟩ := freeze_row m2
 have hcell : ∀ bb o, (W.freeze ⟨b, cur.size, none⟩ 1).cell? ⟨bb, o, none⟩ = W.cell? ⟨bb, o, none⟩ := fun bb o => by
  by_cases hbb : bb = b
  ·subst hbb; rw [f3.cell, m2.cell]
  ·rw [World.cell?, World.cell?, f2 bb hbb]
 have hmv : Move (fun q => q = .box j) W (W.freeze ⟨b, cur.size, none⟩ 1) g g := ⟨fun bb o hf => ⟨hf, fun u hu => by rw [hcell]; exact hu⟩, fun bb q hq hx => ⟨hq, f2 bb (fun he => by subst he; rw [m3] at hq; injection hq with hq; exact hx hq.symm), fun _ ho => ho⟩⟩
 have h2 : St w0 T f0 G.n (e.set (.box j) (.gone hv (ver + 1))) a (W.freeze ⟨b, cur.size, none⟩ 1) g := by
  refine h1.move hmv (fun q hq' => by rw [hq']; exact hq) (fun _ _ => rfl) rfl rfl rfl (by omega) (fun bb hbb ht => f2 bb (fun he => ?_)) (fun bb q hq => ?_) (fun bb o hf => ?_) (fun _ _ _ _ hf => hf)
  ·subst he; exact ht ((h.ownNew _ _ m3).2 hbb)
  ·have := h.ownNew bb q hq; exact ⟨by omega, this.2⟩
  ·have := h.fixLt bb o hf; omega
 have hrow2 : RowAt g.fix g.own (W.freeze ⟨b, cur.size, none⟩ 1) (.box j) (g.bx j).h el r xs := ⟨some ⟨b, off, none⟩, c, k1, k2, .inr ⟨b, off, cur, cs, rfl, f3, m3, m4, m5, m6, m7, m8.mono hmv.fixed, m9⟩⟩
 obtain ⟨fr, m2h, -⟩ := id m2
 refine fin_row h hd hdst h2 hq hrow2 ?_ hr4 hK
 simp only [execOp, ho, hhv, k1, Sem.run_bind]
 rw [run_convert_row hu he m2h]
 rfl
theorem sound_extractRow {x : Operand} {i k j hv : Nat} {vs : List (Bool × List DV)} (ho : o.op = .extract x i) (h : St w0 T f0 G.n e a W g) (hd : dstOk G.n o.dst = true) (hdat : Dat g W (.tupr vs k j hv) (a.eval x)) (hp : PtrOk e g (.tupr vs k j hv) (a.eval x))
  (hr : (bif Nat.beq i k then put o.dst (.hdr j hv) .done else (match vs.drop i with
   | (true, cs) :: _ => put o.dst (.agg (cs.map DV.clear)) .done
   | (false, [d]) :: _ => put o.dst (.val d.clear) .done
   | _ => .fail)).run e some = some e') (hK : ∀ a' W' g', St w0 T f0 G.n e' a' W' g' → K a' W') : o.wp P a W K Q := by
 obtain ⟨us, hv', hl, hc⟩ := hdat
 cases hik : Nat.beq i k <;> simp only [hik, cond_true, cond_false] at hr
 ·split at hr
  ·rename_i cs _ hdrop
   have hi : vs[i]? = some (true, cs) := by have := congrArg (fun l => l[0]?) hdrop; simpa using this
   obtain ⟨u, hu, hag, hcell⟩ := hc i _ hi
   cases u <;> simp [Value.isAgg] at hag
   rename_i ws
   exact value_put h hd hr rfl rfl ⟨ws, rfl, Cells.clear hcell, NilTips.clear _ _⟩ (by simp [execOp, ho, hv', Instr.extract, hu]) hK
  ·rename_i dv _ hdrop
   have hi : vs[i]? = some (false, [dv]) := by have := congrArg (fun l => l[0]?) hdrop; simpa using this
   obtain ⟨u, hu, hag, hcell⟩ := hc i _ hi
   rw [isAgg_false_cells hag] at hcell
   exact value_put h hd hr rfl rfl (val_dat hag hcell.1) (by simp [execOp, ho, hv', Instr.extract, hu]) hK
  ·simp [Prog.run] at hr
 ·have := Nat.eq_of_beq_eq_true hik
  subst this
  obtain ⟨us', u, q1, q2, q3⟩ := hp
  rw [hv'] at q1
  injection q1 with q1
  subst q1
  rw [put_run hr] at hK
  exact wp_value (v := u) (by simp [execOp, ho, hv', Instr.extract, q2]) (hK _ _ _ (h.putDst hd (pv := .hdr j hv) (fun _ _ => trivial) q3))
theorem rptr_row (h : St w0 T f0 n e a W g) {j hv i off sz ver : Nat} {el : TypeId} {r : Ty} {xs : List r.D} {v : Value} (hp : PtrOk e g (.rptr j hv i off sz) v) (hb : e (.box j) = .row el r xs hv ver) :
  sz = r.sz ∧ i < xs.length ∧ ∃ b o0 cur cs c, (g.bx j).h = .slice (some ⟨b, o0, none⟩) xs.length c ∧ LenOk xs.length c ∧ v = .pointer (some ⟨b, o0 + i * sz + off, none⟩) ∧ RowBlk W b cur el ∧ g.own b = some (.box j) ∧ (∀ o, ¬ g.fix b o) ∧ c ≤ maxLen ∧ 0 < r.sz ∧ o0 + c * r.sz ≤ cur.size ∧
   Rows g.fix W r xs cs ∧ ∀ (k : Nat) u, cs[k]? = some u → cur[o0 + k]? = some u := by
 have hp' : RpOk (e (.box j)) (g.bx j) hv i off sz v := hp
 rw [hb] at hp'
 obtain ⟨h1, h2, blk, o0, c, h3, h4⟩ := hp'.2 rfl
 have hbr := h.boxes j
 rw [hb] at hbr
 obtain ⟨⟨A, c', k1, k2, k3⟩, -⟩ := hbr
 rw [h3] at k1
 injection k1 with k1 _ k1'
 subst k1; subst k1'
 rcases k3 with ⟨k3, _⟩ | ⟨b, off', cur, cs, m1, m2, m3, m4, m5, m6, m7, m8, m9⟩
 ·cases k3
 ·injection m1 with m1
  injection m1 with m1 m1' _
  subst m1; subst m1'
  exact ⟨h1, h2, blk, o0, cur, cs, c, h3, k2, h4, m2, m3, m4, m5, m6, m7, m8, m9⟩
theorem sound_rowIndex {t : TypeId} {x i : Operand} {j hv : Nat} (hG : CtxTys P G) (ho : o.op = .indexAddr t x i) (h : St w0 T f0 G.n e a W g) (hd : dstOk G.n o.dst = true) (hp : PtrOk e g (.hdr j hv) (a.eval x))
  (hr : (getInt i fun n => seeRow j hv fun e r xs _ => .chk (match look t G.ty with | some T => eqTy T (.sl e r.unest) | none => false) <|
    .chk (decide (0 ≤ n) && decide (n < xs.length)) (put o.dst (.rptr j hv n.toNat 0 r.sz) .done)).run e some = some e') (hK : ∀ a' W' g', St w0 T f0 G.n e' a' W' g' → K a' W') : o.wp P a W K Q := by
 obtain ⟨kd, m, hr1, hi⟩ := getInt_sound h hr
 obtain ⟨el, r, xs, ver, hb, hr2⟩ := seeRow_run hr1
 obtain ⟨ht, hr3⟩ := chk_run hr2
 obtain ⟨hc, hr4⟩ := chk_run hr3
 have htk := hG _ _ (eqTy_look ht)
 have hszr : (sizeOf el).run P W = .ok r.sz W := by rw [htk.sl_row.run_size, unest_sz]
 simp only [Bool.and_eq_true, decide_eq_true_eq] at hc
 obtain ⟨h0, h1⟩ := hc
 obtain ⟨m, rfl⟩ := Int.eq_ofNat_of_zero_le h0
 have hm : m < xs.length := by omega
 obtain ⟨hv', hrow⟩ := hdr_row h hp hb
 obtain ⟨A, c, hval, k2, k3⟩ := hrow
 rcases k3 with ⟨rfl, hc0⟩ | ⟨b, off, cur, cs, rfl, m2, m3, m4, m5, m6, m7, m8, m9⟩
 ·exact absurd k2.1 (by omega)
 have hu := htk.sl_und
 have hel : P.elem t = el := by simp [Program.elem, hu]
 simp only [Int.toNat_natCast] at hr4
 rw [put_run hr4] at hK
 refine wp_value (v := .pointer (some ((⟨b, off, none⟩ : Addr).add (m * r.sz)))) ?_ (hK _ _ _ (h.putDst hd (pv := .rptr j hv m 0 r.sz) (fun _ _ => trivial) ?_))
 ·simp only [execOp, ho, hval, hi, Sem.run_bind, Sem.run_pure]
  rw [run_indexAt_slice W t ⟨b, off, none⟩ xs.length c kd m (by rw [hel]; exact hu), if_pos ⟨h0, h1⟩, hel, hszr]
  simp
 ·show RpOk (e (.box j)) (g.bx j) hv m 0 r.sz _
  rw [hb]
  refine ⟨Nat.le_refl _, fun _ => ⟨rfl, hm, b, off, c, ?_, ?_⟩⟩
  ·rw [← hv', hval]
  ·rw [add_none rfl, Nat.add_zero]
theorem sound_rowField {t : TypeId} {x : Operand} {f j hv i off sz : Nat} {ty : Ty} {fo : Nat} {ft : Ty} (hG : CtxTys P G) (ho : o.op = .fieldAddr t x f) (hty : look t G.ty = some ty) (hf : ty.fld f = some (fo, ft)) (h : St w0 T f0 G.n e a W g) (hd : dstOk G.n o.dst = true) (hp : PtrOk e g (.rptr j hv i off sz) (a.eval x))
  (hr : (Prog.chk (Nat.ble (off + fo + ft.sz) sz) <| seeRow j hv fun _ _ _ _ => put o.dst (.rptr j hv i (off + fo) sz) .done).run e some = some e') (hK : ∀ a' W' g', St w0 T f0 G.n e' a' W' g' → K a' W') : o.wp P a W K Q := by
 obtain ⟨-, hr1⟩ := chk_run hr
 obtain ⟨el, r, xs, ver, hb, hr2⟩ := seeRow_run hr1
 obtain ⟨h1, h2, b, o0, cur, cs, c, k1, k2, k3, -⟩ := rptr_row h hp hb
 rw [put_run hr2] at hK
 refine wp_value (v := .pointer (some ⟨b, o0 + i * sz + off + fo, none⟩)) (by simp [execOp, ho, k3, run_fieldAt (hG _ _ hty) hf (ad := ⟨b, o0 + i * sz + off, none⟩) rfl]) (hK _ _ _ (h.putDst hd (pv := .rptr j hv i (off + fo) sz) (fun _ _ => trivial) ?_))
 show RpOk (e (.box j)) (g.bx j) hv i (off + fo) sz _
 rw [hb]
 exact ⟨Nat.le_refl _, fun _ => ⟨h1, h2, b, o0, c, k1, by rw [Nat.add_assoc (o0 + i * sz)]⟩⟩
theorem sound_rowNil {x : Operand} {j hv i off sz : Nat} (ho : o.op = .nilCheck x) (h : St w0 T f0 G.n e a W g) (hd : dstOk G.n o.dst = true) (hp : PtrOk e g (.rptr j hv i off sz) (a.eval x))
  (hr : (seeRow j hv fun _ _ _ _ => put o.dst (.rptr j hv i off sz) .done).run e some = some e') (hK : ∀ a' W' g', St w0 T f0 G.n e' a' W' g' → K a' W') : o.wp P a W K Q := by
 obtain ⟨el, r, xs, ver, hb, hr2⟩ := seeRow_run hr
 obtain ⟨h1, h2, b, o0, cur, cs, c, k1, k2, k3, -⟩ := rptr_row h hp hb
 rw [put_run hr2] at hK
 refine wp_value (v := a.eval x) ?_ (hK _ _ _ (h.putDst hd (pv := .rptr j hv i off sz) (fun _ _ => trivial) hp))
 simp [execOp, ho, k3]
theorem elem_cells {fix : Nat → Nat → Prop} {r : Ty} {xs : List r.D} {cs : List Value} (h : Rows fix W r xs cs) {i : Nat} (hi : i < xs.length) : Rep fix W r (xs.getD i r.zero) ((cs.drop (i * r.sz)).take r.sz) := by
 have := h.2 i _ (List.getElem?_eq_getElem hi)
 simpa [hi] using this
theorem sound_rowLoad {t : TypeId} {x : Operand} {j hv i off sz : Nat} {ty : Ty} (hG : CtxTys P G) (ho : o.op = .load t x) (hty : look t G.ty = some ty) (h : St w0 T f0 G.n e a W g) (hd : dstOk G.n o.dst = true) (hp : PtrOk e g (.rptr j hv i off sz) (a.eval x))
  {el : TypeId} {r : Ty} {xs : List r.D} {ver : Nat} (hb : e (.box j) = .row el r xs hv ver) (hz : Nat.ble 1 ty.sz = true) (hr2 : (Prog.chk (Nat.ble (off + ty.sz) r.sz) (put o.dst (loadAs ty (r.split (xs.getD i r.zero)) off) .done)).run e some = some e') (hK : ∀ a' W' g', St w0 T f0 G.n e' a' W' g' → K a' W') : o.wp P a W K Q := by
 have hz : 0 < ty.sz := Nat.le_of_ble_eq_true hz
 obtain ⟨hl, hr3⟩ := chk_run hr2
 have hl : off + ty.sz ≤ r.sz := Nat.le_of_ble_eq_true hl
 obtain ⟨h1, h2, b, o0, cur, cs, c, k1, k2, k3, k4, k5, k6, k7, k8, k9, k10, k11⟩ := rptr_row h hp hb
 subst h1
 have hrep := elem_cells k10 h2
 have hcs := Cells.split _ _ _ hrep
 obtain ⟨v, hload, hdv⟩ := load_cells (P := P) (hG _ _ hty) (ad := ⟨b, o0 + i * r.sz + off, none⟩) (lo := off) rfl hcs (fun q u hu _ => by
  rw [List.getElem?_take] at hu
  split at hu
  ·rw [List.getElem?_drop] at hu
   show W.cell? ⟨b, o0 + i * r.sz + off + q, none⟩ = some u
   rw [k4.cell]
   have := k11 _ u hu
   rw [← this]
   congr 1; omega
  ·cases hu) (by rw [hcs.len, hrep.len]; exact hl) hz
 rw [put_run hr3] at hK
 exact wp_value (v := v) (by simp [execOp, ho, k3, hload]) (hK _ _ _ (h.putDat hd (hdv g rfl) loadAs_clear (loadAs_ptr e)))
theorem sound_rowLen {c : Call} {x : Operand} {t : TypeId} {j hv : Nat} (hG : CtxTys P G) (ho : o.op = .call c) (hc : c.callee = .builtin .len) (hx : c.args.toList = [x]) (htt : c.argTypes.toList = [t]) (h : St w0 T f0 G.n e a W g) (hd : dstOk G.n o.dst = true) (hp : PtrOk e g (.hdr j hv) (a.eval x))
  (hr : (seeRow j hv fun e r xs _ => .chk (match look t G.ty with | some T => eqTy T (.sl e r) | none => false) (put o.dst (.val ⟨.int .i64, (xs.length : Int), false⟩) .done)).run e some = some e') (hK : ∀ a' W' g', St w0 T f0 G.n e' a' W' g' → K a' W') : o.wp P a W K Q := by
 obtain ⟨el, r, xs, ver, hb, hr2⟩ := seeRow_run hr
 obtain ⟨ht, hr3⟩ := chk_run hr2
 have htk := hG _ _ (eqTy_look ht)
 obtain ⟨A, cp, hv', -⟩ := len_row (hdr_row h hp hb).2
 exact value_put h hd hr3 rfl rfl (int_dat g W .i64 xs.length) (by simp [execOp, ho, resolve, hc, args_one hx, types_one htt, invoke, builtin, hv', Builtin.len_, run_underlying htk.sl_und, goInt]) hK
theorem row_write (P : Program) {fix : Nat → Nat → Prop} {own : Nat → Option Lab} {W : World} {q : Lab} {hd : Value} {el : TypeId} {r : Ty} {xs : List r.D} (hrow : RowAt fix own W q hd el r xs) {i off : Nat} (hix : i < xs.length) {us : List Value} (hl : off + us.length ≤ r.sz) (h1 : ∀ u ∈ us, u.oneCell' = true) {z : r.D}
  (hz : ∀ ci : List Value, Rep fix W r (xs.getD i r.zero) ci → Rep fix W r z (ci.take off ++ us ++ ci.drop (off + us.length))) :
  ∃ b o0 c W', hd = .slice (some ⟨b, o0, none⟩) xs.length c ∧ own b = some q ∧ (∀ o, ¬ fix b o) ∧ (storeCells ⟨b, o0 + i * r.sz + off, none⟩ us).run P W = .ok () W' ∧ W'.heap.size = W.heap.size ∧ W'.os = W.os ∧ W'.tape = W.tape ∧ W'.output = W.output ∧
   (∀ k, k ≠ b → W'.heap[k]? = W.heap[k]?) ∧ (∀ (o : Nat) u, us[o]? = some u → W'.cell? ⟨b, o0 + i * r.sz + off + o, none⟩ = some u) ∧
   (∀ p, (p < o0 + i * r.sz + off ∨ o0 + i * r.sz + off + us.length ≤ p) → W'.cell? ⟨b, p, none⟩ = W.cell? ⟨b, p, none⟩) ∧ RowAt fix own W' q hd el r (xs.set i z) := by
 obtain ⟨A, c, k1, k2, k3⟩ := hrow
 rcases k3 with ⟨_, hc0⟩ | ⟨b, o0, cur, cs, rfl, k4, k5, k6, k7, k8, k9, k10, k11⟩
 ·exact absurd k2.1 (by omega)
 have hi : i * r.sz + r.sz ≤ cs.length := by rw [k10.1, ← Nat.succ_mul]; exact Nat.mul_le_mul_right _ hix
 have hcs : o0 + cs.length ≤ cur.size := by
  rw [k10.1]
  have : xs.length * r.sz ≤ c * r.sz := Nat.mul_le_mul_right _ k2.1
  omega
 obtain ⟨fr, k4h, k4f⟩ := id k4
 have hrun := run_storeRow P b (o0 + i * r.sz + off) el fr us 0 cur W k4h k4f (by omega) h1
 simp only [Nat.add_zero] at hrun
 generalize hnc : (cur.toList.take (o0 + i * r.sz + off) ++ us ++ cur.toList.drop (o0 + i * r.sz + off + us.length)).toArray = nc at hrun
 have hncs : nc.size = cur.size := by
  rw [← hnc]
  simp only [List.size_toArray, List.length_append, List.length_take, List.length_drop, Array.length_toList]
  omega
 have hheap := k4.set hncs
 have hoth : ∀ k, k ≠ b → (W.setRow b nc).heap[k]? = W.heap[k]? := fun k hk => setRow_other W b k nc hk
 have hfixed : ∀ b' o, fix b' o → fix b' o ∧ ∀ u, W.cell? ⟨b', o, none⟩ = some u → (W.setRow b nc).cell? ⟨b', o, none⟩ = some u := fun b' o hf => ⟨hf, fun u hu => by
  have hbg : b' ≠ b := fun heq => by subst heq; exact k6 o hf
  rw [World.cell?_of_block (w := W) (hoth b' hbg)]; exact hu⟩
 have helem := elem_cells k10 hix
 have hrows := Rows.mono hfixed (k10.set hix (hz _ helem))
 have hnj : ∀ (q : Nat) u, (cur.toList.take (o0 + i * r.sz + off) ++ us ++ cur.toList.drop (o0 + i * r.sz + off + us.length))[q]? = some u → nc[q]? = some u := fun q u hu => by rw [← hnc]; simpa using hu
 refine ⟨b, o0, c, W.setRow b nc, k1, k5, k6, hrun, by simp [World.setRow], rfl, rfl, rfl, hoth, fun o u hu => ?_, fun p hp => ?_, ?_⟩
 ·rw [hheap.cell]
  have ho : o < us.length := (List.getElem?_eq_some_iff.1 hu).1
  refine hnj _ _ (get_put (by simp; omega) (.inl ⟨by omega, by omega, ?_⟩))
  rw [← hu]; congr 1; omega
 ·rw [hheap.cell, k4.cell]
  cases hc : cur[p]? with
  | some u => exact hnj _ _ (get_put (by simp; omega) (.inr ⟨hp, by simpa using hc⟩))
  | none =>
   have := Array.getElem?_eq_none_iff.1 hc
   exact Array.getElem?_eq_none_iff.2 (by omega)
 ·refine ⟨some ⟨b, o0, none⟩, c, by rw [k1, List.length_set], by rw [List.length_set]; exact k2, .inr ⟨b, o0, nc, _, rfl, hheap, k5, k6, k7, k8, ?_, hrows, fun k u hu => ?_⟩⟩
  ·rw [hncs]; exact k9
  ·have hel : ((cs.drop (i * r.sz)).take r.sz).length = r.sz := by rw [List.length_take, List.length_drop]; omega
   have hcur : cs.length ≤ cur.toList.length - o0 := by simp; omega
   have hul : (((cs.drop (i * r.sz)).take r.sz).take off ++ us ++ ((cs.drop (i * r.sz)).take r.sz).drop (off + us.length)).length = r.sz := by
    simp only [List.length_append, List.length_take, List.length_drop]
    omega
   refine hnj _ _ (get_put (by simp; omega) ?_)
   rcases put_get (by rw [hul]; exact hi) hu with ⟨q1, q2, q3⟩ | ⟨q1, q2⟩
   ·rw [hul] at q2
    rcases put_get (by rw [hel]; exact hl) q3 with ⟨p1, p2, p3⟩ | ⟨p1, p2⟩
    ·refine .inl ⟨by omega, by omega, ?_⟩
     rw [← p3]; congr 1; omega
    ·rw [List.getElem?_take] at p2
     split at p2
     ·rw [List.getElem?_drop] at p2
      refine .inr ⟨by omega, ?_⟩
      have := k11 _ _ p2
      rw [show i * r.sz + (k - i * r.sz) = k by omega] at this
      simpa using this
     ·cases p2
   ·rw [hul] at q1
    exact .inr ⟨by omega, by simpa using k11 _ _ q2⟩
theorem St.rewrite (h : St w0 T f0 n e a W g) {j hv ver : Nat} {el : TypeId} {r : Ty} {xs xs' : List r.D} (hb : e (.box j) = .row el r xs hv ver) {X : Lab} (hX : X = .box j ∨ ∃ k, X = .cell j k) {blk : Nat} (hblk : g.own blk = some X) (hnf : ∀ o, ¬ g.fix blk o) {W' : World}
  (size : W'.heap.size = W.heap.size) (os : W'.os = W.os) (tape : W'.tape = W.tape) (output : W'.output = W.output) (hoth : ∀ k, k ≠ blk → W'.heap[k]? = W.heap[k]?) (hlen : xs'.length = xs.length) {B : Bx} (hB : j < 1000000 ∨ B = g.bx j) (hBh : B.h = (g.bx j).h)
  (hrow : RowAt g.fix g.own W' (.box j) B.h el r xs') (hsub : SubsAt g.fix g.own W' j B r xs') : ∃ g', g'.fix = g.fix ∧ St w0 T f0 n (e.set (.box j) (.row el r xs' hv (ver + 1))) a W' g' := by
 have hmv : Move (fun x => x = X) W W' g g := by
  refine ⟨fun b' o hf => ⟨hf, fun u hu => ?_⟩, fun b' q hq hne => ?_⟩
  ·have hbg : b' ≠ blk := fun heq => by subst heq; exact hnf o hf
   rw [World.cell?_of_block (w := W) (hoth b' hbg)]; exact hu
  ·have hbg : b' ≠ blk := fun heq => by subst heq; rw [hblk] at hq; injection hq with hq; exact hne hq.symm
   exact ⟨hq, hoth b' hbg, fun o ho => ho⟩
 have hl' : St w0 T f0 n (e.set (.box j) (.lrow r xs.length hv ver)) a W g := h.setBox' trivial (by
  rw [hb]
  exact ⟨fun hh => (by cases hh), fun b hv v hh => hh, fun b hv i o sz v hh => hh, fun _ _ _ _ _ _ hh => ⟨hh.1, fun he => (hh.2 he).1⟩, fun _ _ _ _ _ _ _ _ _ hh => ⟨hh.1, fun he => (hh.2 he).1⟩⟩) (.row (fun _ => rfl) (by rw [hb]; rfl))
 have hfree : Free (e.set (.box j) (.lrow r xs.length hv ver)) X := by
  rcases hX with rfl | ⟨k, rfl⟩
  ·exact free_box (fun _ _ _ hh => by cases hh) rfl
  ·refine ⟨fun t ht => (by cases ht), fun i' T' cs' v' hbx => ⟨by simp, fun jj d hj _ => ?_⟩, fun i' hbx => ⟨by simp, fun k' hk => ?_⟩⟩
   ·injection hj with hj _
    subst hj
    simp [Env.set] at hbx
   ·injection hk with hk _
    subst hk
    simp [Env.set, PV.isR] at hbx
 have h' : St w0 T f0 n (e.set (.box j) (.lrow r xs.length hv ver)) a W' g := by
  refine hl'.move hmv (fun q hq => by rw [hq]; exact hfree) (fun _ _ => rfl) os tape output (by omega) (fun b' hb' ht => hoth b' (fun heq => ?_)) (fun b' q hq => ?_) (fun b' o hf => ?_) (fun b' o _ _ hf => hf)
  ·subst heq; exact ht ((h.ownNew _ _ hblk).2 hb')
  ·have := h.ownNew b' q hq; exact ⟨by omega, this.2⟩
  ·have := h.fixLt b' o hf; omega
 have hfin := h'.rebox (pv := .row el r xs' hv (ver + 1)) (B := B) (hB.imp id .inr) (fun _ => rfl) (fun _ i k hk hl => by have := h'.lnks i k hl (by rw [hk]; simp [Env.set, PV.there]); rw [this, hk, hBh]) (by simp [Env.set, PV.isCell])
  (fun x v hx => by simp only [Env.set, if_true, HOk] at hx ⊢; exact ⟨hx.1, fun he => by rw [hBh]; exact hx.2 he⟩)
  (fun x i' o sz v hx => by simp only [Env.set, if_true, RpOk] at hx ⊢; rw [hlen, hBh]; exact hx)
  (fun _ _ _ _ _ hx => by simp only [Env.set, if_true, ShOk] at hx ⊢; exact ⟨hx.1, fun he => ⟨by have := hx.2 he; omega, fun he2 => absurd (hx.2 he) (by omega)⟩⟩)
  (fun _ _ _ _ _ _ _ _ hx => by simp only [Env.set, if_true, SpOk] at hx ⊢; exact ⟨hx.1, fun he => ⟨by have := hx.2 he; omega, fun he2 => absurd (hx.2 he) (by omega)⟩⟩)
  (by simp only [BRep, Gh.at, if_true]; exact ⟨hrow, hsub⟩)
 have : (e.set (.box j) (.lrow r xs.length hv ver)).set (.box j) (.row el r xs' hv (ver + 1)) = e.set (.box j) (.row el r xs' hv (ver + 1)) := by
  funext p; simp only [Env.set]; split <;> rfl
 rw [this] at hfin
 exact ⟨g.at j B, rfl, hfin⟩
theorem St.writeRow (h : St w0 T f0 n e a W g) {j hv ver : Nat} {el : TypeId} {r : Ty} {xs : List r.D} (hb : e (.box j) = .row el r xs hv ver) (hpl : r.plain = true) {i off : Nat} {v : Value} (hp : PtrOk e g (.rptr j hv i off r.sz) v) {us : List Value} (hl : off + us.length ≤ r.sz) (h1 : ∀ u ∈ us, u.oneCell' = true) {z : r.D}
  (hz : ∀ ci : List Value, Rep g.fix W r (xs.getD i r.zero) ci → Rep g.fix W r z (ci.take off ++ us ++ ci.drop (off + us.length))) :
  ∃ ad W' g', v = .pointer (some ad) ∧ (storeCells ad us).run P W = .ok () W' ∧ St w0 T f0 n (e.set (.box j) (.row el r (xs.set i z) hv (ver + 1))) a W' g' := by
 obtain ⟨-, h2, b, o0, cur, cs, c, k1, k2, k3, -⟩ := rptr_row h hp hb
 have hbr := h.boxes j
 rw [hb] at hbr
 obtain ⟨b', o0', c', W', q1, q2, q3, q4, q5, q6, q7, q8, q9, -, -, q10⟩ := row_write P hbr.1 h2 hl h1 hz
 rw [k1] at q1
 injection q1 with q1 _ _
 injection q1 with q1
 injection q1 with q1 q1' _
 subst q1; subst q1'
 obtain ⟨g', -, hfin⟩ := h.rewrite hb (.inl rfl) q2 q3 q5 q6 q7 q8 q9 (List.length_set) (B := g.bx j) (.inr rfl) rfl q10 (.plain hpl)
 exact ⟨_, W', g', k3, q4, hfin⟩
theorem sound_rowStore {t : TypeId} {x y : Operand} {j hv i off sz : Nat} {ty : Ty} (hG : CtxTys P G) (ho : o.op = .store t x y) (hty : look t G.ty = some ty) (h : St w0 T f0 G.n e a W g) (hp : PtrOk e g (.rptr j hv i off sz) (a.eval x))
  (hr : (getD ty y fun y => seeRow j hv fun e r xs ver => .chk (Nat.ble (off + ty.sz) r.sz && G.bxs.contains j && r.plain) <|
     match r.build (putCells (r.split (xs.getD i r.zero)) off (ty.split y)) with
     | some (z, []) => .set (.box j) (.row e r (xs.set i z) hv (ver + 1)) .done
     | _ => .fail).run e some = some e') (hdst : o.dst = none) (hK : ∀ a' W' g', St w0 T f0 G.n e' a' W' g' → K a' W') : o.wp P a W K Q := by
 obtain ⟨yv, hr2, hy⟩ := getD_sound h hr
 obtain ⟨el, r, xs, ver, hb, hr3⟩ := seeRow_run hr2
 obtain ⟨hl, hr4⟩ := chk_run hr3
 simp only [Bool.and_eq_true] at hl
 have hpl := hl.2
 have hl := Nat.le_of_ble_eq_true hl.1.1
 have htk := hG _ _ hty
 have hsz := (rptr_row h hp hb).1
 subst hsz
 split at hr4
 ·rename_i z hzz
  simp only [Prog.run, Option.some.injEq] at hr4
  have hyl := hy.2.len
  obtain ⟨ad, W', g', q1, q2, q3⟩ := h.writeRow (P := P) hb hpl hp (us := (a.eval y).cells.toList) (z := z) (by rw [hyl]; exact hl) (hy.2.one _ _ _) (fun ci hci => by
   have hcl := hci.len
   have hcs := Cells.split _ _ _ hci
   have hys := Cells.split _ _ _ hy.2
   refine Ty.build_all hzz ?_
   unfold putCells
   have e1 : off + (ty.split yv).length = off + (a.eval y).cells.toList.length := by rw [hys.len]
   rw [e1]
   exact ((hcs.take off).append hys).append (hcs.drop _))
  rw [← hr4] at hK
  refine wp_skip' (W' := W') ?_ ?_
  ·have hcs : (a.eval y).cells.size = ty.sz := by simpa using hyl
   simp [execOp, ho, q1, Instr.storeAt, Instr.sureAddr, storeVar, htk.run_size, hcs, q2]
  ·rw [hdst]; exact hK _ _ _ q3
 ·simp [Prog.run] at hr4
theorem nth_at {α : Type} : ∀ (l : List α) (n : Nat), nth l n = l[n]?
 | [], _ => rfl
 | _ :: _, 0 => rfl
 | _ :: l, n + 1 => by simpa [nth] using nth_at l n
theorem subAt_spec {r : Ty} {x : r.D} {off : Nat} {e2 : TypeId} {r2 : Ty} {y : List r2.D} (h : subAt r x off = some ⟨e2, r2, y⟩) : ∃ tip, (r.split x)[off]? = some ⟨.osl e2 r2, y, tip⟩ := by
 unfold subAt at h
 rw [nth_at] at h
 split at h
 ·rename_i e3 r3 y3 tip hh
  injection h with h
  injection h with h1 h2
  subst h1
  injection h2 with h2 h3
  subst h2
  have h3 := eq_of_heq h3
  subst h3
  exact ⟨tip, hh⟩
 ·cases h
theorem seeSub_run {j hv ver i off : Nat} {k : (e : TypeId) → (r : Ty) → List r.D → (e2 : TypeId) → (r2 : Ty) → List r2.D → Prog} {e' : Env} (hr : (seeSub j hv ver i off k).run e some = some e') :
  ∃ el r xs e2 r2 y tip, e (.box j) = .row el r xs hv ver ∧ (r.split (xs.getD i r.zero))[off]? = some ⟨.osl e2 r2, y, tip⟩ ∧ (k el r xs e2 r2 y).run e some = some e' := by
 simp only [seeSub, Prog.run] at hr
 split at hr
 ·rename_i el r xs hv' ver' hb
  obtain ⟨h1, hr2⟩ := chk_run hr
  simp only [Bool.and_eq_true] at h1
  have q1 := Nat.eq_of_beq_eq_true h1.1
  have q2 := Nat.eq_of_beq_eq_true h1.2
  subst q1; subst q2
  split at hr2
  ·rename_i e2 r2 y hs
   obtain ⟨tip, ht⟩ := subAt_spec hs
   exact ⟨el, r, xs, e2, r2, y, tip, hb, ht, hr2⟩
  ·simp [Prog.run] at hr2
 ·simp [Prog.run] at hr
theorem sub_row (h : St w0 T f0 n e a W g) {j hv ver i off : Nat} {el : TypeId} {r : Ty} {xs : List r.D} (hb : e (.box j) = .row el r xs hv ver) (hi : i < xs.length) {e2 : TypeId} {r2 : Ty} {y : List r2.D} {tip : Bool} (hs : (r.split (xs.getD i r.zero))[off]? = some ⟨.osl e2 r2, y, tip⟩) :
  ∃ b o m c, (g.bx j).h = .slice (some ⟨b, o, none⟩) m c ∧ g.own b = some (.box j) ∧ W.cell? ⟨b, o + i * r.sz + off, none⟩ = some ((g.bx j).sub (i * r.sz + off)) ∧ RowAt g.fix g.own W (.cell j (i * r.sz + off)) ((g.bx j).sub (i * r.sz + off)) e2 r2 y := by
 have hbr := h.boxes j
 rw [hb] at hbr
 have hx : xs[i]? = some (xs.getD i r.zero) := by simp [hi]
 exact hbr.2 i _ hx off e2 r2 y tip hs
theorem shdr_row (_ : St w0 T f0 n e a W g) {j hv ver i off : Nat} {el : TypeId} {r : Ty} {xs : List r.D} {v : Value} (hp : PtrOk e g (.shdr j hv ver i off) v) (hb : e (.box j) = .row el r xs hv ver) : i < xs.length ∧ v = (g.bx j).sub (i * r.sz + off) := by
 have hp' : ShOk (e (.box j)) (g.bx j) hv ver i off v := hp
 rw [hb] at hp'
 exact (hp'.2 rfl).2 rfl
theorem sound_subHead {t : TypeId} {x : Operand} {j hv ver i off sz : Nat} {el e2 : TypeId} {r r2 : Ty} {xs : List r.D} {y : List r2.D} (hG : CtxTys P G) (ho : o.op = .load t x) (hty : look t G.ty = some (.sl e2 r2)) (h : St w0 T f0 G.n e a W g) (hd : dstOk G.n o.dst = true) (hp : PtrOk e g (.rptr j hv i off sz) (a.eval x))
  (hb : e (.box j) = .row el r xs hv ver) (hs : subAt r (xs.getD i r.zero) off = some ⟨e2, r2, y⟩) (hr : (put o.dst (.shdr j hv ver i off) .done).run e some = some e') (hK : ∀ a' W' g', St w0 T f0 G.n e' a' W' g' → K a' W') : o.wp P a W K Q := by
 obtain ⟨h1, h2, b, o0, cur, cs, c, k1, k2, k3, -⟩ := rptr_row h hp hb
 subst h1
 obtain ⟨tip, hs⟩ := subAt_spec hs
 obtain ⟨b', o', m, c', q1, -, q3, -⟩ := sub_row h hb h2 hs
 rw [k1] at q1
 injection q1 with q1 _ _
 injection q1 with q1
 injection q1 with q1 q1' _
 subst q1; subst q1'
 have htk := hG _ _ hty
 rw [put_run hr] at hK
 refine wp_value (v := (g.bx j).sub (i * r.sz + off)) ?_ (hK _ _ _ (h.putDst hd (pv := .shdr j hv ver i off) (fun _ _ => trivial) ?_))
 ·simp only [execOp, ho, k3, Instr.loadAt, Instr.sureAddr, Sem.run_bind, Sem.run_pure, Result.andThen_ok, loadVar, htk.run_isAgg, Ty.isAgg, Bool.false_eq_true, if_false, run_load, q3]
 ·show ShOk _ _ _ _ _ _ _
  rw [hb]
  exact ⟨Nat.le_refl _, fun _ => ⟨Nat.le_refl _, fun _ => ⟨h2, rfl⟩⟩⟩
theorem sound_subIndex {t : TypeId} {x i : Operand} {j hv ver ii off : Nat} (hG : CtxTys P G) (ho : o.op = .indexAddr t x i) (h : St w0 T f0 G.n e a W g) (hd : dstOk G.n o.dst = true) (hp : PtrOk e g (.shdr j hv ver ii off) (a.eval x))
  (hr : (getInt i fun n => seeSub j hv ver ii off fun _ _ _ e2 r2 y => .chk (match look t G.ty with | some T => eqTy T (.sl e2 r2) | none => false) <|
    .chk (decide (0 ≤ n) && decide (n < y.length)) (put o.dst (.sptr j hv ver ii off n.toNat 0 r2.sz) .done)).run e some = some e') (hK : ∀ a' W' g', St w0 T f0 G.n e' a' W' g' → K a' W') : o.wp P a W K Q := by
 obtain ⟨kd, m, hr1, hi⟩ := getInt_sound h hr
 obtain ⟨el, r, xs, e2, r2, y, tip, hb, hs, hr2⟩ := seeSub_run hr1
 obtain ⟨ht, hr3⟩ := chk_run hr2
 obtain ⟨hc, hr4⟩ := chk_run hr3
 have htk := hG _ _ (eqTy_look ht)
 simp only [Bool.and_eq_true, decide_eq_true_eq] at hc
 obtain ⟨h0, h1⟩ := hc
 obtain ⟨m, rfl⟩ := Int.eq_ofNat_of_zero_le h0
 have hm : m < y.length := by omega
 obtain ⟨hii, hval⟩ := shdr_row h hp hb
 obtain ⟨b', o', m', c', -, -, -, q4⟩ := sub_row h hb hii hs
 obtain ⟨A, c, q5, q6, q7⟩ := q4
 rw [q5] at hval
 rcases q7 with ⟨rfl, hc0⟩ | ⟨b, off2, cur, cs, rfl, m2, m3, m4, m5, m6, m7, m8, m9⟩
 ·exact absurd q6.1 (by omega)
 have hu := htk.sl_und
 have hel : P.elem t = e2 := by simp [Program.elem, hu]
 simp only [Int.toNat_natCast] at hr4
 rw [put_run hr4] at hK
 refine wp_value (v := .pointer (some ((⟨b, off2, none⟩ : Addr).add (m * r2.sz)))) ?_ (hK _ _ _ (h.putDst hd (pv := .sptr j hv ver ii off m 0 r2.sz) (fun _ _ => trivial) ?_))
 ·simp only [execOp, ho, hval, hi, Sem.run_bind, Sem.run_pure]
  rw [run_indexAt_slice W t ⟨b, off2, none⟩ y.length c kd m (by rw [hel]; exact hu), if_pos ⟨h0, h1⟩, hel, htk.sl_row.run_size]
  simp
 ·show SpOk _ _ _ _ _ _ _ _ _ _
  rw [hb]
  exact ⟨Nat.le_refl _, fun _ => ⟨Nat.le_refl _, fun _ => ⟨hii, b, off2, y.length, c, q5, hm, by rw [add_none rfl, Nat.add_zero]⟩⟩⟩
theorem sptr_row (h : St w0 T f0 n e a W g) {j hv ver i off i2 off2 sz2 : Nat} {el : TypeId} {r : Ty} {xs : List r.D} {v : Value} (hp : PtrOk e g (.sptr j hv ver i off i2 off2 sz2) v) (hb : e (.box j) = .row el r xs hv ver) {e2 : TypeId} {r2 : Ty} {y : List r2.D} {tip : Bool} (hs : (r.split (xs.getD i r.zero))[off]? = some ⟨.osl e2 r2, y, tip⟩) :
  i < xs.length ∧ i2 < y.length ∧ ∃ b o c cur cs, (g.bx j).sub (i * r.sz + off) = .slice (some ⟨b, o, none⟩) y.length c ∧ v = .pointer (some ⟨b, o + i2 * sz2 + off2, none⟩) ∧ RowBlk W b cur e2 ∧ Rows g.fix W r2 y cs ∧ ∀ (k : Nat) u, cs[k]? = some u → cur[o + k]? = some u := by
 have hp' : SpOk (e (.box j)) (g.bx j) hv ver i off i2 off2 sz2 v := hp
 rw [hb] at hp'
 obtain ⟨h1, blk, o, m, c, h2, h3, h4⟩ := (hp'.2 rfl).2 rfl
 obtain ⟨b', o', m', c', -, -, -, A, c2, q5, q6, q7⟩ := sub_row h hb h1 hs
 rw [h2] at q5
 injection q5 with q5 q5' q5''
 subst q5; subst q5'; subst q5''
 rcases q7 with ⟨q7, _⟩ | ⟨b, off3, cur, cs, q7, m2, m3, m4, m5, m6, m7, m8, m9⟩
 ·cases q7
 ·injection q7 with q7
  injection q7 with q7 q7' _
  subst q7; subst q7'
  exact ⟨h1, h3, blk, o, c, cur, cs, h2, h4, m2, m8, m9⟩
theorem sound_subLoad {t : TypeId} {x : Operand} {j hv ver i off i2 off2 sz2 : Nat} {ty : Ty} (hG : CtxTys P G) (ho : o.op = .load t x) (hty : look t G.ty = some ty) (h : St w0 T f0 G.n e a W g) (hd : dstOk G.n o.dst = true) (hp : PtrOk e g (.sptr j hv ver i off i2 off2 sz2) (a.eval x))
  (hr : (Prog.chk (Nat.ble 1 ty.sz) <| seeSub j hv ver i off fun _ _ _ _ r2 y => .chk (Nat.ble (off2 + ty.sz) r2.sz && Nat.beq sz2 r2.sz) (put o.dst (loadAs ty (r2.split (y.getD i2 r2.zero)) off2) .done)).run e some = some e') (hK : ∀ a' W' g', St w0 T f0 G.n e' a' W' g' → K a' W') : o.wp P a W K Q := by
 obtain ⟨hz, hr1⟩ := chk_run hr
 have hz : 0 < ty.sz := Nat.le_of_ble_eq_true hz
 obtain ⟨el, r, xs, e2, r2, y, tip, hb, hs, hr2⟩ := seeSub_run hr1
 obtain ⟨hl, hr3⟩ := chk_run hr2
 simp only [Bool.and_eq_true] at hl
 have hsz := Nat.eq_of_beq_eq_true hl.2
 have hle : off2 + ty.sz ≤ r2.sz := Nat.le_of_ble_eq_true hl.1
 obtain ⟨h1, h2, b, o0, c, cur, cs, k1, k3, k4, k10, k11⟩ := sptr_row h hp hb hs
 subst hsz
 have hrep := elem_cells k10 h2
 have hcs := Cells.split _ _ _ hrep
 obtain ⟨v, hload, hdv⟩ := load_cells (P := P) (hG _ _ hty) (ad := ⟨b, o0 + i2 * r2.sz + off2, none⟩) (lo := off2) rfl hcs (fun q u hu _ => by
  rw [List.getElem?_take] at hu
  split at hu
  ·rw [List.getElem?_drop] at hu
   show W.cell? ⟨b, o0 + i2 * r2.sz + off2 + q, none⟩ = some u
   rw [k4.cell]
   have := k11 _ u hu
   rw [← this]
   congr 1; omega
  ·cases hu) (by rw [hcs.len, hrep.len]; exact hle) hz
 rw [put_run hr3] at hK
 exact wp_value (v := v) (by simp [execOp, ho, k3, hload]) (hK _ _ _ (h.putDat hd (hdv g rfl) loadAs_clear (loadAs_ptr e)))
theorem Ty.build_split : ∀ (t : Ty) (l l' : List DV) (x : t.D), t.build l = some (x, l') → ∃ pre, l = pre ++ l' ∧ t.split x = pre.map DV.clear
 | .unit, l, l', x, h => by
  injection h with h; injection h with _ h
  exact ⟨[], by simp [h], rfl⟩
 | .int k, l, l', x, h => by obtain ⟨tip, e⟩ := takeOne_eq h; exact ⟨[_], e, rfl⟩
 | .bool, l, l', x, h => by obtain ⟨tip, e⟩ := takeOne_eq h; exact ⟨[_], e, rfl⟩
 | .str, l, l', x, h => by obtain ⟨tip, e⟩ := takeOne_eq h; exact ⟨[_], e, rfl⟩
 | .sl _ _, l, l', x, h => by obtain ⟨tip, e⟩ := takeOne_eq h; exact ⟨[_], e, rfl⟩
 | .any, l, l', x, h => by obtain ⟨tip, e⟩ := takeOne_eq h; exact ⟨[_], e, rfl⟩
 | .clo _ _, l, l', x, h => by obtain ⟨tip, e⟩ := takeOne_eq h; exact ⟨[_], e, rfl⟩
 | .osl _ _, l, l', x, h => by obtain ⟨tip, e⟩ := takeOne_eq h; exact ⟨[_], e, rfl⟩
 | .pair a b, l, l', x, h => by
  simp only [Ty.build] at h
  split at h
  ·rename_i y l1 h1
   split at h
   ·rename_i z l2 h2
    injection h with h; injection h with h h'
    subst h; subst h'
    obtain ⟨p1, e1, n1⟩ := Ty.build_split a _ _ _ h1
    obtain ⟨p2, e2, n2⟩ := Ty.build_split b _ _ _ h2
    exact ⟨p1 ++ p2, by rw [e1, e2, List.append_assoc], by simp [Ty.split, n1, n2]⟩
   ·simp at h
  ·simp at h
theorem split_clear (t : Ty) (x : t.D) : (t.split x).map DV.clear = t.split x := by
 have : ∀ d ∈ t.split x, DV.clear d = d := fun d hd => by
  have := split_tips t x d hd
  obtain ⟨p, q, r⟩ := d
  simp only at this
  subst this
  rfl
 rw [List.map_congr_left this, List.map_id']
theorem build_put {r : Ty} {x z : r.D} {off : Nat} (ho : off < r.sz) {d : DV} (hd : d.tip = false) (h : r.build (putCells (r.split x) off [d]) = some (z, [])) : r.split z = (r.split x).set off d := by
 obtain ⟨pre, h1, h2⟩ := Ty.build_split r _ _ _ h
 rw [List.append_nil] at h1
 rw [h2, ← h1, putCells_one (by rw [split_len]; exact ho), List.map_set, split_clear]
 congr 1
 obtain ⟨p, q, t⟩ := d
 simp only at hd
 subst hd
 rfl
theorem sub_lt {r : Ty} {x : r.D} {off : Nat} {d : DV} (h : (r.split x)[off]? = some d) : off < r.sz := by
 have := (List.getElem?_eq_some_iff.1 h).1
 rwa [split_len] at this
theorem SubsAt.put {fix : Nat → Nat → Prop} {own : Nat → Option Lab} {W : World} {j : Nat} {B : Bx} {r : Ty} {xs : List r.D} {i off : Nat} (hi : i < xs.length) {e2 : TypeId} {r2 : Ty} {y : List r2.D} {z : r.D} (ho : off < r.sz) (hz : r.split z = (r.split (xs.getD i r.zero)).set off ⟨.osl e2 r2, y, false⟩)
  (hnew : ∃ b o n c, B.h = .slice (some ⟨b, o, none⟩) n c ∧ own b = some (.box j) ∧ W.cell? ⟨b, o + i * r.sz + off, none⟩ = some (B.sub (i * r.sz + off)) ∧ RowAt fix own W (.cell j (i * r.sz + off)) (B.sub (i * r.sz + off)) e2 r2 y)
  (hold : ∀ (i' : Nat) x, xs[i']? = some x → ∀ (o' : Nat) e3 r3 (y3 : List r3.D) tip, o' < r.sz → i' * r.sz + o' ≠ i * r.sz + off → (r.split x)[o']? = some ⟨.osl e3 r3, y3, tip⟩ →
   ∃ b o n c, B.h = .slice (some ⟨b, o, none⟩) n c ∧ own b = some (.box j) ∧ W.cell? ⟨b, o + i' * r.sz + o', none⟩ = some (B.sub (i' * r.sz + o')) ∧ RowAt fix own W (.cell j (i' * r.sz + o')) (B.sub (i' * r.sz + o')) e3 r3 y3) :
  SubsAt fix own W j B r (xs.set i z) := by
 intro i' x hx o' e3 r3 y3 tip hd
 have ho' := sub_lt hd
 rw [List.getElem?_set] at hx
 split at hx
 ·rename_i hii
  subst hii
  injection hx with hx
  subst hx
  rw [hz, List.getElem?_set] at hd
  split at hd
  ·rename_i hoo
   subst hoo
   split at hd
   ·injection hd with hd
    injection hd with h1 h2 _
    injection h1 with h1 h3
    subst h1; subst h3
    have h2 := eq_of_heq h2
    subst h2
    exact hnew
   ·cases hd
  ·rename_i hoo
   exact hold i _ (by simp [hi]) o' e3 r3 y3 tip ho' (by omega) hd
 ·rename_i hii
  refine hold i' x hx o' e3 r3 y3 tip ho' (fun he => hii ?_) hd
  have h1 : (i' * r.sz + o') / r.sz = i' := by rw [Nat.mul_comm, Nat.mul_add_div (by omega), Nat.div_eq_of_lt ho', Nat.add_zero]
  have h2 : (i * r.sz + off) / r.sz = i := by rw [Nat.mul_comm, Nat.mul_add_div (by omega), Nat.div_eq_of_lt ho, Nat.add_zero]
  rw [← h1, ← h2, he]
theorem sound_subStore {t : TypeId} {x y : Operand} {j hv ver i off i2 off2 sz2 : Nat} {ty : Ty} (hG : CtxTys P G) (ho : o.op = .store t x y) (hty : look t G.ty = some ty) (h : St w0 T f0 G.n e a W g) (hp : PtrOk e g (.sptr j hv ver i off i2 off2 sz2) (a.eval x)) (hdst : o.dst = none)
  (hr : (getD ty y fun v => seeSub j hv ver i off fun e r xs e2 r2 y => .chk (Nat.ble (off2 + ty.sz) r2.sz && Nat.beq sz2 r2.sz && r2.plain && G.bxs.contains j) <|
     match r2.build (putCells (r2.split (y.getD i2 r2.zero)) off2 (ty.split v)) with
     | some (z, []) => match r.build (putCells (r.split (xs.getD i r.zero)) off [⟨.osl e2 r2, y.set i2 z, false⟩]) with
      | some (w, []) => .set (.box j) (.row e r (xs.set i w) hv (ver + 1)) .done
      | _ => .fail
     | _ => .fail).run e some = some e') (hK : ∀ a' W' g', St w0 T f0 G.n e' a' W' g' → K a' W') : o.wp P a W K Q := by
 obtain ⟨yv, hr2, hy⟩ := getD_sound h hr
 obtain ⟨el, r, xs, e2, r2, ys, tip, hb, hs, hr3⟩ := seeSub_run hr2
 obtain ⟨hl, hr4⟩ := chk_run hr3
 simp only [Bool.and_eq_true] at hl
 have hsz := Nat.eq_of_beq_eq_true hl.1.1.2
 have hle := Nat.le_of_ble_eq_true hl.1.1.1
 have htk := hG _ _ hty
 split at hr4
 ·rename_i z hzz
  split at hr4
  ·rename_i w hww
   simp only [Prog.run, Option.some.injEq] at hr4
   obtain ⟨h1, h2, b, o0, c, cur, cs, k1, k3, k4, k10, k11⟩ := sptr_row h hp hb hs
   subst hsz
   obtain ⟨bo, oo, mo, co, s1, s2, s3, s4⟩ := sub_row h hb h1 hs
   have hyl := hy.2.len
   have hoff := sub_lt hs
   obtain ⟨b', o0', c', W', q1, q2, q3, q4, q5, q6, q7, q8, q9, -, -, q10⟩ := row_write P s4 h2 (us := (a.eval y).cells.toList) (z := z) (by rw [hyl]; exact hle) (hy.2.one _ _ _) (fun ci hci => by
    have hcs := Cells.split _ _ _ hci
    have hys := Cells.split _ _ _ hy.2
    refine Ty.build_all hzz ?_
    unfold putCells
    have e1 : off2 + (ty.split yv).length = off2 + (a.eval y).cells.toList.length := by rw [hys.len]
    rw [e1]
    exact ((hcs.take off2).append hys).append (hcs.drop _))
   rw [k1] at q1
   injection q1 with q1 _ _
   injection q1 with q1
   injection q1 with q1 q1' _
   subst q1; subst q1'
   have hmv : Move (fun x => x = .cell j (i * r.sz + off)) W W' g g := by
    refine ⟨fun b' o hf => ⟨hf, fun u hu => ?_⟩, fun b' q hq hne => ?_⟩
    ·have hbg : b' ≠ b := fun heq => by subst heq; exact q3 o hf
     rw [World.cell?_of_block (w := W) (q9 b' hbg)]; exact hu
    ·have hbg : b' ≠ b := fun heq => by subst heq; rw [q2] at hq; injection hq with hq; exact hne hq.symm
     exact ⟨hq, q9 b' hbg, fun o ho => ho⟩
   have hbr := h.boxes j
   rw [hb] at hbr
   have hsplit := build_put hoff rfl hww
   have hcellOut : ∀ p, W'.cell? ⟨bo, p, none⟩ = W.cell? ⟨bo, p, none⟩ := fun p => by
    have : bo ≠ b := fun he => by subst he; rw [q2] at s2; cases s2
    exact World.cell?_of_block (q9 bo this)
   have hout : RowAt g.fix g.own W' (.box j) (g.bx j).h el r (xs.set i w) := by
    obtain ⟨A, cc, m1, m2, m3⟩ := hbr.1.move hmv (by simp)
    refine ⟨A, cc, by rw [List.length_set]; exact m1, by rw [List.length_set]; exact m2, m3.imp id fun ⟨b5, off5, cur5, cs5, n1, n2, n3, n4, n5, n6, n7, n8, n9⟩ => ⟨b5, off5, cur5, cs5, n1, n2, n3, n4, n5, n6, n7, ⟨by rw [List.length_set]; exact n8.1, fun i5 x5 hx5 => ?_⟩, n9⟩⟩
    rw [List.getElem?_set] at hx5
    split at hx5
    ·rename_i hii
     subst hii
     injection hx5 with hx5
     subst hx5
     have hold := n8.2 i _ (show xs[i]? = some (xs.getD i r.zero) by simp [h1])
     refine Ty.build_all hww ?_
     have hcs5 := Cells.split _ _ _ hold
     rw [putCells_one (by rw [split_len]; exact hoff)]
     refine Cells.of_get (by rw [List.length_set]; exact hcs5.len) fun jj d u hd hu => ?_
     rw [List.getElem?_set] at hd
     split at hd
     ·rename_i hjj
      subst hjj
      split at hd
      ·injection hd with hd
       subst hd
       exact ⟨u, rfl, hold.one _ _ _ u (List.mem_of_getElem? hu)⟩
      ·cases hd
     ·obtain ⟨u', hu', hr'⟩ := hcs5.get jj d hd
      rw [hu] at hu'
      injection hu' with hu'
      subst hu'
      exact hr'
    ·exact n8.2 i5 x5 hx5
   obtain ⟨g', -, hfin⟩ := h.rewrite hb (.inr ⟨_, rfl⟩) q2 q3 q5 q6 q7 q8 q9 (List.length_set) (B := g.bx j) (.inr rfl) rfl hout
    (SubsAt.put h1 hoff hsplit ⟨bo, oo, mo, co, s1, s2, by rw [hcellOut]; exact s3, q10⟩ fun i' x' hx' o' e3 r3 y3 tip3 ho' hne hd' => by
     obtain ⟨b6, o6, n6, c6, t1, t2, t3, t4⟩ := hbr.2 i' x' hx' o' e3 r3 y3 tip3 hd'
     refine ⟨b6, o6, n6, c6, t1, t2, ?_, t4.move hmv (fun hh => by injection hh with _ hh; exact hne hh)⟩
     have : b6 ≠ b := fun he => by subst he; rw [q2] at t2; cases t2
     rw [World.cell?_of_block (w := W) (q9 b6 this)]; exact t3)
   rw [← hr4] at hK
   refine wp_skip' (W' := W') ?_ ?_
   ·have hcs : (a.eval y).cells.size = ty.sz := by simpa using hyl
    simp [execOp, ho, k3, Instr.storeAt, Instr.sureAddr, storeVar, htk.run_size, hcs, q4]
   ·rw [hdst]; exact hK _ _ _ hfin
  ·simp [Prog.run] at hr4
 ·simp [Prog.run] at hr4
theorem sound_moveIn {t : TypeId} {x y : Operand} {j hv i off sz s hs : Nat} {ty : Ty} (hG : CtxTys P G) (ho : o.op = .store t x y) (hty : look t G.ty = some ty) (h : St w0 T f0 G.n e a W g) (hp : PtrOk e g (.rptr j hv i off sz) (a.eval x)) (hq : PtrOk e g (.hdr s hs) (a.eval y)) (hdst : o.dst = none)
  (hr : (moveIn G ty j hv i off s hs).run e some = some e') (hK : ∀ a' W' g', St w0 T f0 G.n e' a' W' g' → K a' W') : o.wp P a W K Q := by
 unfold moveIn at hr
 obtain ⟨el, r, xs, ver, hb, hr2⟩ := seeRow_run hr
 split at hr2
 ·rename_i e2 r2 y0 hsub
  obtain ⟨hc, hr3⟩ := chk_run hr2
  simp only [Bool.and_eq_true, Bool.not_eq_true'] at hc
  obtain ⟨⟨⟨⟨hty2, hpl⟩, hne⟩, hj⟩, hjlt⟩ := hc
  obtain ⟨el', r', ys, ver2, hbs, hr4⟩ := seeRow_run hr3
  have hty2 := eqTy_iff.1 hty2
  subst hty2
  have hjs : j ≠ s := fun he => by subst he; rw [Nat.beq_refl] at hne; cases hne
  split at hr4
  ·rename_i yv hyv
   have hrow2 : PV.row el' r' ys hs ver2 = .row e2 r2 yv hs ver2 := as_row' hyv hs ver2
   rw [hrow2] at hbs
   split at hr4
   ·rename_i z hzz
    simp only [Prog.run, Option.some.injEq] at hr4
    obtain ⟨tip, hs0⟩ := subAt_spec hsub
    obtain ⟨h1, h2, b, o0, cur, cs, c, k1, k2, k3, -⟩ := rptr_row h hp hb
    subst h1
    have hoff := sub_lt hs0
    obtain ⟨hval, -⟩ := hdr_row h hq hbs
    obtain ⟨g1st, grow, gfree⟩ := h.leave hbs
    obtain ⟨g1, f1, f2, h3, hrow3, hkeep⟩ := g1st.relabelRow (.cell j (i * r.sz + off)) gfree grow
    have hb1 : (e.set (.box s) (.gone hs (ver2 + 1))) (.box j) = .row el r xs hv ver := by simp [Env.set, hjs, hb]
    have hbr := h3.boxes j
    rw [hb1] at hbr
    have hsh : ∃ c', (g1.bx s).h = (g.bx s).h := ⟨0, by rw [f2]⟩
    have hone : ∀ u ∈ [a.eval y], u.oneCell' = true := fun u hu => by
     rw [List.mem_singleton] at hu
     subst hu
     obtain ⟨A, c', q1, -⟩ := grow
     rw [hval, q1]; rfl
    obtain ⟨b', o0', c', W', q1, q2, q3, q4, q5, q6, q7, q8, q9, q10, q11, q12⟩ := row_write P hbr.1 h2 (off := off) (us := [a.eval y]) (z := z) (by simp; omega) hone (fun ci hci => by
     refine Ty.build_all hzz ?_
     have hcs := Cells.split _ _ _ hci
     unfold putCells
     exact ((hcs.take off).append (show Cells g1.fix W [⟨.osl e2 r2, yv, false⟩] [a.eval y] from ⟨⟨_, rfl, hone _ (by simp)⟩, trivial⟩)).append (hcs.drop _))
    have hhdr : (g1.bx j).h = .slice (some ⟨b, o0, none⟩) xs.length c := by rw [f2]; exact k1
    rw [hhdr] at q1
    injection q1 with q1 _ _
    injection q1 with q1
    injection q1 with q1 q1' _
    subst q1; subst q1'
    have hmv : Move (fun x => x = .box j) W W' g1 g1 := by
     refine ⟨fun b' o hf => ⟨hf, fun u hu => ?_⟩, fun b' q hq hne => ?_⟩
     ·have hbg : b' ≠ b := fun heq => by subst heq; exact q3 o hf
      rw [World.cell?_of_block (w := W) (q9 b' hbg)]; exact hu
     ·have hbg : b' ≠ b := fun heq => by subst heq; rw [q2] at hq; injection hq with hq; exact hne hq.symm
      exact ⟨hq, q9 b' hbg, fun o ho => ho⟩
    have hsplit := build_put hoff rfl hzz
    have hlt := Nat.le_of_ble_eq_true hjlt.1
    obtain ⟨g', -, hfin⟩ := h3.rewrite hb1 (.inl rfl) q2 q3 q5 q6 q7 q8 q9 (List.length_set) (B := { g1.bx j with sub := fun q => if q = i * r.sz + off then a.eval y else (g1.bx j).sub q }) (.inl (by omega)) rfl q12
     (SubsAt.put h2 hoff hsplit ⟨b, o0, xs.length, c, hhdr, q2, by
       have := q10 0 (a.eval y) rfl
       simpa using this, by
       simp only [if_true]
       have := hrow3.move hmv (by simp)
       rw [hval]
       exact this⟩ fun i' x' hx' o' e3 r3 y3 tip3 ho' hne' hd' => by
      obtain ⟨b6, o6, n6, c6, t1, t2, t3, t4⟩ := hbr.2 i' x' hx' o' e3 r3 y3 tip3 hd'
      rw [hhdr] at t1
      have t1' := t1
      injection t1 with t1 _ _
      injection t1 with t1
      injection t1 with t1 t1'' _
      subst t1; subst t1''
      simp only [if_neg hne']
      refine ⟨b, o0, n6, c6, by rw [hhdr]; exact t1', t2, ?_, t4.move hmv (by simp)⟩
      rw [q11 _ (by simp only [List.length_cons, List.length_nil]; omega)]
      exact t3)
    rw [← hr4] at hK
    have htk := hG _ _ hty
    refine wp_skip' (W' := W') ?_ ?_
    ·have hsz : (a.eval y).cells = #[a.eval y] := by
      obtain ⟨A, c'', q1, -⟩ := grow
      rw [hval, q1]; rfl
     simp [execOp, ho, k3, Instr.storeAt, Instr.sureAddr, storeVar, htk.run_size, hsz, Ty.sz, q4]
    ·rw [hdst]; exact hK _ _ _ hfin
   ·simp [Prog.run] at hr4
  ·simp [Prog.run] at hr4
 ·simp [Prog.run] at hr2
theorem run_append_room_at (t ty el : TypeId) (i : TypeInfo) (ht : P.underlying t = some (.slice el)) (hi : P.info? el = some i)
  (g off sLen sCap : Nat) (cur : Array Value) (hg : RowBlk W g cur el)
  (a : Addr) (m c : Nat) (news : List Value) (hl : news.length = m * i.size) (hnews : ∀ (j : Nat) u, news[j]? = some u → W.cell? (a.add j) = some u) (h1 : ∀ u ∈ news, u.oneCell' = true)
  (hroom : sLen + m ≤ sCap) (hfit : off + sLen * i.size + news.length ≤ cur.size) :
  (Builtin.append_ #[t, t] ty #[.slice (some ⟨g, off, none⟩) sLen sCap, .slice (some a) m c]).run P W =
   .ok (.slice (some ⟨g, off, none⟩) (sLen + m) sCap) (W.setRow g (cur.toList.take (off + sLen * i.size) ++ news ++ cur.toList.drop (off + sLen * i.size + news.length)).toArray) := by
 have hf := run_firstCells_some (P := P) W i.size m a m c news hl hnews
 obtain ⟨fr, hgh, hgf⟩ := hg
 have hst := run_storeRow P g (off + sLen * i.size) el fr news 0 cur W hgh hgf (by simpa using hfit) h1
 simp only [Nat.add_zero] at hst
 simp [Builtin.append_, run_underlying ht, sizeOf, typeInfo, hi, Builtin.lenOf, hroom, hf, add_none, hst]
theorem St.appendRow (h : St w0 T f0 n e a W g) {t ty el : TypeId} {r : Ty} (ht : TyOk P t (.sl el r)) {q : Lab} {v y : Value} {xs ys : List r.D} (hrow : RowAt g.fix g.own W q v el r xs) (hf : Free e q) (hy : Rep g.fix W (.sl el r) ys [y]) (hb : xs.length + ys.length < rowMax) :
  ∃ v' W' g' q', (Builtin.append_ #[t, t] ty #[v, y]).run P W = .ok v' W' ∧ St w0 T f0 n e a W' g' ∧ RowAt g'.fix g'.own W' q' v' el r (xs ++ ys) ∧ Free e q' ∧ g'.bx = g.bx ∧ RowAt g'.fix g'.own W' q v el r xs := by
 have hu := ht.sl_und
 obtain ⟨i, z, hi, hsz, hzz, hzc, hpos, hb1, hb2⟩ := ht.sl_info
 have hzs : z.cells.size = r.sz := by
  have h1 := (zero_rep g.fix W r ht.sl_row.plain).len
  rw [← hzc] at h1
  simpa using h1
 have hrm : rowMax = 549755813888 := rfl
 rw [hrm] at hb
 obtain ⟨ds, hds, B, cy, rfl, hcy, hdc⟩ := hy.inner
 have hrow' := hrow
 obtain ⟨A, c, rfl, hc, hrest⟩ := hrow
 by_cases hye : ys = []
 ·subst hye
  simp only [List.append_nil, List.length_nil]
  refine ⟨_, W, g, q, run_append_zero hu hi A B xs.length c cy hc.1 (fun hA => ?_) W, h, hrow', hf, rfl, hrow'⟩
  rcases hrest with ⟨_, hc0⟩ | ⟨b, off, cur, cs, k1, _⟩
  ·subst hc0; exact ⟨by have := hc.1; omega, rfl⟩
  ·rw [hA] at k1; cases k1
 ·obtain ⟨ad, rfl, hs, hdcell⟩ := hdc hye
  have hnews : ∀ (j : Nat) u, ds[j]? = some u → W.cell? (ad.add j) = some u := fun j u hj => by rw [add_none hs]; exact (hdcell j u hj).2
  have hm : 0 < ys.length := List.length_pos_iff.mpr hye
  have hdl : ds.length = ys.length * i.size := by rw [hds.1, hsz]
  have hbytes : (xs.length + ys.length) * i.bytes ≤ 140737488355328 := Nat.le_trans (Nat.mul_le_mul (Nat.le_of_lt hb) hb2) (by decide)
  have fresh : ∀ (cs : List Value) (rest : Array Value) (cap : Nat), Rows g.fix W r xs cs → xs.length + ys.length ≤ cap → cap ≤ maxLen → (cs.toArray ++ ds.toArray ++ rest).size = cap * r.sz →
    ∃ g', St w0 T f0 n e a (W.drew.alloc (.cells (cs.toArray ++ ds.toArray ++ rest) el)) g' ∧ RowAt g'.fix g'.own (W.drew.alloc (.cells (cs.toArray ++ ds.toArray ++ rest) el)) (.arg 0) (.slice (some ⟨W.heap.size, 0, none⟩) (xs.length + ys.length) cap) el r (xs ++ ys) ∧ g'.bx = g.bx ∧ Move (fun _ => False) W (W.drew.alloc (.cells (cs.toArray ++ ds.toArray ++ rest) el)) g g' := by
   intro cs rest cap hcs hcap hcm hsize
   obtain ⟨g', h', hrow, hbx, hmv⟩ := h.madeRow2 (xs := xs ++ ys) (cs := cs ++ ds) (c := cap) W.drew rfl rfl rfl rfl (cs.toArray ++ ds.toArray ++ rest) el hpos (hcs.append hds) (fun k u hk => by
    have hk' := (List.getElem?_eq_some_iff.1 hk).1
    simp only [List.append_toArray]
    rw [Array.getElem?_append_left (by simpa using hk')]
    simpa using hk) (by simpa using hcap) (by simp only [List.length_append, lenMax]; omega) hcm (by rw [hsize]; exact Nat.le_refl _)
   rw [List.length_append] at hrow
   exact ⟨g', h', hrow, hbx, hmv⟩
  rcases hrest with ⟨rfl, rfl⟩ | ⟨b, off, cur, cs, rfl, k2, k3, k4, k5, k6, k7, k8, k9⟩
  ·have hxe : xs = [] := List.eq_nil_of_length_eq_zero (by have := hc.1; omega)
   subst hxe
   have hr := run_append_nil (P := P) W t ty el i z hu hi hzz ad ys.length cy ds hdl hnews hm (by omega) (by simp only [List.length_nil, Nat.zero_add] at hbytes; omega)
   have hge := grownCap_ge W ys.length 0 el
   have hle := grownCap_le_maxLen W ys.length 0 el (by simp only [maxLen]; omega)
   obtain ⟨g', m1, m2, m3, m4⟩ := fresh [] (Builtin.zeroCells z.cells (grownCap W ys.length 0 el - ys.length)) (grownCap W ys.length 0 el) Rows.nil (by simpa using hge) hle (by
    simp only [Array.size_append, List.size_toArray, List.length_nil, Nat.zero_add, size_zeroCells, hzs, hds.1, ← Nat.add_mul]
    congr 1; omega)
   simp only [List.length_nil, Nat.zero_add] at m2 hr ⊢
   have he : (([] : List Value).toArray ++ ds.toArray ++ Builtin.zeroCells z.cells (grownCap W ys.length 0 el - ys.length)) = ds.toArray ++ Builtin.zeroCells z.cells (grownCap W ys.length 0 el - ys.length) := by simp
   rw [he] at m1 m2
   exact ⟨_, _, g', _, hr, m1, m2, free_arg e 0, m3, RowAt.nil _ _ _ _ el r⟩
  ·by_cases hroom : xs.length + ys.length ≤ c
   ·have hfit : off + xs.length * i.size + ds.length ≤ cur.size := by
     have : (xs.length + ys.length) * r.sz ≤ c * r.sz := Nat.mul_le_mul_right _ hroom
     rw [Nat.add_mul] at this
     rw [hdl, hsz]; omega
    have hr := run_append_room_at (P := P) (W := W) t ty el i hu hi b off xs.length c cur k2 ad ys.length cy ds hdl hnews hds.oneCell hroom hfit
    rw [hsz] at hr hfit
    generalize hnc : (cur.toList.take (off + xs.length * r.sz) ++ ds ++ cur.toList.drop (off + xs.length * r.sz + ds.length)).toArray = nc at hr
    have hncs : nc.size = cur.size := by
     rw [← hnc]
     simp only [List.size_toArray, List.length_append, List.length_take, List.length_drop, Array.length_toList]
     omega
    have hheap := k2.set hncs
    have hoth : ∀ k, k ≠ b → (W.setRow b nc).heap[k]? = W.heap[k]? := fun k hk => setRow_other W b k nc hk
    have hmv : Move (fun x => x = q) W (W.setRow b nc) g g := by
     refine ⟨fun b' o hfx => ⟨hfx, fun u hu => ?_⟩, fun b' p hp hne => ?_⟩
     ·have hbg : b' ≠ b := fun heq => by subst heq; exact k4 o hfx
      rw [World.cell?_of_block (w := W) (hoth b' hbg)]; exact hu
     ·have hbg : b' ≠ b := fun heq => by subst heq; rw [k3] at hp; injection hp with hp; exact hne hp.symm
      exact ⟨hp, hoth b' hbg, fun o ho => ho⟩
    have hsizeEq : (W.setRow b nc).heap.size = W.heap.size := by simp [World.setRow]
    have h' : St w0 T f0 n e a (W.setRow b nc) g := by
     refine h.move hmv (fun x hx => by rw [hx]; exact hf) (fun _ _ => rfl) rfl rfl rfl (by omega) (fun b' hb' ht => hoth b' (fun heq => ?_)) (fun b' p hp => ?_) (fun b' o hfx => ?_) (fun b' o hb' ht hfx => hfx)
     ·subst heq; exact ht ((h.ownNew _ _ k3).2 hb')
     ·have := h.ownNew b' p hp; exact ⟨by omega, this.2⟩
     ·have := h.fixLt b' o hfx; omega
    refine ⟨_, _, g, q, hr, h', ⟨_, c, by rw [List.length_append], ⟨by simpa using hroom, by simp only [List.length_append, lenMax]; omega⟩, .inr ⟨b, off, nc, cs ++ ds, rfl, hheap, k3, k4, k5, k6, ?_, (k8.append hds).mono hmv.fixed, fun k u hk => ?_⟩⟩, hf, rfl, ⟨_, c, rfl, hc, .inr ⟨b, off, nc, cs, rfl, hheap, k3, k4, k5, k6, ?_, k8.mono hmv.fixed, fun k u hk => ?_⟩⟩⟩
    ·rw [← hnc]
     simp only [List.size_toArray, List.length_append, List.length_take, List.length_drop, Array.length_toList]
     omega
    ·have hgo : (cur.toList.take (off + xs.length * r.sz) ++ ds ++ cur.toList.drop (off + xs.length * r.sz + ds.length))[off + k]? = some u := by
      refine get_put (by simpa using hfit) ?_
      rcases Nat.lt_or_ge k cs.length with hlt | hge
      ·rw [List.getElem?_append_left hlt] at hk
       rw [k8.1] at hlt
       exact .inr ⟨.inl (by omega), by simpa using k9 _ _ hk⟩
      ·rw [List.getElem?_append_right hge] at hk
       have hlt := (List.getElem?_eq_some_iff.1 hk).1
       rw [k8.1] at hge hlt hk
       refine .inl ⟨by omega, by omega, ?_⟩
       rw [← hk]; congr 1; omega
     rw [← hnc]; simpa using hgo
    ·rw [← hnc]
     simp only [List.size_toArray, List.length_append, List.length_take, List.length_drop, Array.length_toList]
     omega
    ·have hlt := (List.getElem?_eq_some_iff.1 hk).1
     rw [k8.1] at hlt
     have hgo : (cur.toList.take (off + xs.length * r.sz) ++ ds ++ cur.toList.drop (off + xs.length * r.sz + ds.length))[off + k]? = some u :=
      get_put (by simpa using hfit) (.inr ⟨.inl (by omega), by simpa using k9 _ _ hk⟩)
     rw [← hnc]; simpa using hgo
   ·have hr := run_append_grow (P := P) W t ty el i z hu hi hzz ⟨b, off, none⟩ xs.length c cs (by rw [k8.1, hsz]) (fun j u hj => by rw [add_none rfl]; show W.cell? ⟨b, off + j, none⟩ = some u; rw [k2.cell]; exact k9 _ _ hj) ad ys.length cy ds hdl hnews (by omega) (by omega) (growslice_fits (by omega) hbytes)
    have hge := grownCap_ge W (xs.length + ys.length) c el
    have hle := grownCap_le_maxLen W (xs.length + ys.length) c el (by simp only [maxLen]; omega)
    obtain ⟨g', m1, m2, m3, m4⟩ := fresh cs (Builtin.zeroCells z.cells (grownCap W (xs.length + ys.length) c el - (xs.length + ys.length))) (grownCap W (xs.length + ys.length) c el) k8 hge hle (by
     simp only [Array.size_append, List.size_toArray, size_zeroCells, hzs, hds.1, k8.1, ← Nat.add_mul]
     congr 1; omega)
    exact ⟨_, _, g', _, hr, m1, m2, free_arg e 0, m3, hrow'.move m4 fun hh => hh⟩
theorem sound_rowAppend {c : Call} {x y : Operand} {t t' : TypeId} {j hv d : Nat} (hG : CtxTys P G) (ho : o.op = .call c) (hc : c.callee = .builtin .append) (hx : c.args.toList = [x, y]) (htt : c.argTypes.toList = [t, t']) (h : St w0 T f0 G.n e a W g) (hd : dstOk G.n o.dst = true) (hdst : o.dst = some d) (hp : PtrOk e g (.hdr j hv) (a.eval x))
  (hr : (Prog.chk (Nat.beq t t') <| seeRow j hv fun e r xs ver => .chk (match look t G.ty with | some T => eqTy T (.sl e r) | none => false) <| getD (.sl e r) y fun ys =>
      .chk (decide (xs.length + ys.length < rowMax) && G.bxs.contains j) <| .set (.box j) (.gone hv (ver + 1)) (putRow d e r (xs ++ ys))).run e some = some e') (hK : ∀ a' W' g', St w0 T f0 G.n e' a' W' g' → K a' W') : o.wp P a W K Q := by
 obtain ⟨htb, hr1⟩ := chk_run hr
 have htb := Nat.eq_of_beq_eq_true htb
 subst htb
 obtain ⟨el, r, xs, ver, hb, hr2⟩ := seeRow_run hr1
 obtain ⟨ht, hr3⟩ := chk_run hr2
 have htk := hG _ _ (eqTy_look ht)
 obtain ⟨ys, hr4, hys⟩ := getD_sound h hr3
 obtain ⟨hl, hr5⟩ := chk_run hr4
 simp only [Bool.and_eq_true] at hl
 simp only [Prog.run] at hr5
 have hrow := (hdr_row h hp hb).2
 obtain ⟨h1, -, hq⟩ := h.leave hb
 obtain ⟨v', W', g', q', k1, k2, k3, k4, -⟩ := h1.appendRow (P := P) (t := t) (ty := o.type) htk hrow hq (vrep_one hys rfl) (of_decide_eq_true hl.1)
 have hx2 : c.args.map a.eval = #[a.eval x, a.eval y] := by rw [args_two hx]; simp
 exact fin_row h hd hdst k2 k4 k3 (by simp [execOp, ho, resolve, hc, types_two htt, hx2, invoke, builtin, k1]) hr5 hK
theorem St.thawRow (h : St w0 T f0 n e a W g) {j hv ver : Nat} {el : TypeId} {r : Ty} {xs : List r.D} (hb : e (.box j) = .row el r xs hv ver) :
  ∃ g', g'.bx = g.bx ∧ St w0 T f0 n (e.set (.box j) (.gone hv (ver + 1))) a W g' ∧ Rep g'.fix W (.sl el r) xs [(g.bx j).h] ∧ ∀ b o, g.fix b o → g'.fix b o := by
 obtain ⟨h1, ⟨A, c, k1, k2, k3⟩, hq⟩ := h.leave hb
 rcases k3 with ⟨rfl, rfl⟩ | ⟨b, off, cur, cs, rfl, m2, m3, m4, m5, m6, m7, m8, m9⟩
 ·have hxe : xs = [] := List.eq_nil_of_length_eq_zero (by have := k2.1; omega)
  subst hxe
  exact ⟨g, rfl, h1, ⟨none, 0, by rw [k1], k2, fun hn => absurd rfl hn⟩, fun _ _ h => h⟩
 ·let g' : Gh := { g with fix := fun b' o => g.fix b' o ∨ b' = b }
  have hmono : ∀ b o, g.fix b o → g'.fix b o ∧ ∀ u, W.cell? ⟨b, o, none⟩ = some u → W.cell? ⟨b, o, none⟩ = some u := fun b o hf => ⟨.inl hf, fun _ h => h⟩
  have h2 : St w0 T f0 n (e.set (.box j) (.gone hv (ver + 1))) a W g' := by
   refine h1.move (X := fun q => q = .box j) ⟨hmono, fun b' q hb' hx => ⟨hb', rfl, fun o ho => ?_⟩⟩ (fun q hq' => by rw [hq']; exact hq) (fun _ _ => rfl) rfl rfl rfl (Nat.le_refl _) (fun _ _ _ => rfl) h1.ownNew (fun b' o hf => ?_) (fun b' o hb' ht hf => ?_)
   ·rcases ho with ho | ho
    ·exact ho
    ·subst ho; rw [m3] at hb'; injection hb' with hb'; exact absurd hb'.symm hx
   ·rcases hf with hf | hf
    ·exact h.fixLt b' o hf
    ·subst hf; exact (h.ownNew _ _ m3).1
   ·rcases hf with hf | hf
    ·exact hf
    ·subst hf; exact absurd ((h.ownNew _ _ m3).2 hb') ht
  refine ⟨g', rfl, h2, ?_, fun b o h => .inl h⟩
  rw [k1]
  exact Rep.of_rows (m8.mono hmono) k2 fun k u hu => ⟨.inr rfl, by rw [m2.cell]; exact m9 _ _ hu⟩
theorem St.thawSlot (h : St w0 T f0 n e a W g) {s j hv ver : Nat} {el : TypeId} {r : Ty} {xs : List r.D} (hs : e (.slot s) = .hdr j hv) (hb : e (.box j) = .row el r xs hv ver) :
  ∃ g', g'.bx = g.bx ∧ St w0 T f0 n ((e.set (.slot s) (.val ⟨.sl el r, xs, false⟩)).set (.box j) (.gone hv (ver + 1))) a W g' := by
 have hp := h.ptr s
 rw [hs] at hp
 have hv' := (hdr_row h hp hb).1
 obtain ⟨g', k1, k2, k3, -⟩ := h.thawRow hb
 rw [← hv'] at k3
 have h2 := k2.setSlot (t := s) (pv := .val ⟨.sl el r, xs, false⟩) ⟨by obtain ⟨A, c, e1, _⟩ := k3; injection e1 with e1; rw [e1]; rfl, k3, fun hh => by cases hh⟩ (not_ptr rfl _)
 have he : (e.set (.box j) (.gone hv (ver + 1))).set (.slot s) (.val ⟨.sl el r, xs, false⟩) = (e.set (.slot s) (.val ⟨.sl el r, xs, false⟩)).set (.box j) (.gone hv (ver + 1)) := by
  funext p
  cases p <;> simp [Env.set]
 rw [he] at h2
 exact ⟨g', k1, h2⟩
theorem thawP_sound {k : Prog} : ∀ (l : List Nat) {e : Env} {g : Gh}, St w0 T f0 n e a W g → (thawP G k l).run e some = some e' → ∃ e1 g1, k.run e1 some = some e' ∧ St w0 T f0 n e1 a W g1
 | [], e, g, h, hr => ⟨e, g, hr, h⟩
 | s :: l, e, g, h, hr => by
  simp only [thawP, Prog.run] at hr
  split at hr
  ·rename_i j hv hs
   simp only [Prog.run] at hr
   split at hr
   ·rename_i el r xs hv' ver hb
    cases hc : Nat.beq hv hv' && G.bxs.contains j && r.plain <;> simp only [hc, cond_true, cond_false] at hr
    ·exact thawP_sound l h hr
    ·simp only [Bool.and_eq_true] at hc
     have := Nat.eq_of_beq_eq_true hc.1.1
     subst this
     simp only [Prog.run] at hr
     obtain ⟨g', -, h2⟩ := h.thawSlot hs hb
     exact thawP_sound l h2 hr
   ·exact thawP_sound l h hr
  ·exact thawP_sound l h hr
theorem lookL_mem {α : Type} {k : Nat} {x : α} : ∀ {l : List (Nat × α)}, lookL k l = some x → (k, x) ∈ l
 | [], h => by simp [lookL] at h
 | (m, y) :: l, h => by
  simp only [lookL] at h
  cases hb : Nat.beq k m <;> simp only [hb, cond_true, cond_false] at h
  ·exact List.mem_cons_of_mem _ (lookL_mem h)
  ·have := Nat.eq_of_beq_eq_true hb
   injection h with h
   subst this; subst h
   exact List.mem_cons_self
theorem memB_mem {k : Nat} : ∀ {l : List Nat}, memB k l = true → k ∈ l
 | [], h => by simp [memB] at h
 | m :: l, h => by
  simp only [memB, Bool.or_eq_true] at h
  rcases h with h | h
  ·have := Nat.eq_of_beq_eq_true h; subst this; exact List.mem_cons_self
  ·exact List.mem_cons_of_mem _ (memB_mem h)
theorem lnkIn_spec {ks : List Nat} : ∀ {cs : List DV} {m : Nat}, lnkIn ks cs m = true → ∀ k, cellLnk cs k = true → m + k ∈ ks
 | [], _, _, k, h => by simp [cellLnk] at h
 | d :: l, m, hl, k, h => by
  simp only [lnkIn, Bool.and_eq_true, Bool.or_eq_true, Bool.not_eq_true'] at hl
  cases k with
  | zero =>
   have h : d.isLnk = true := h
   rcases hl.1 with hh | hh
   ·rw [h] at hh; cases hh
   ·exact memB_mem hh
  | succ k =>
   have := lnkIn_spec hl.2 k h
   rwa [show m + 1 + k = m + (k + 1) by omega] at this
theorem HOk.row {pv : PV} {b : Bx} {hv : Nat} {v : Value} (h : HOk pv b hv v) {el : TypeId} {r : Ty} {xs : List r.D} {ver : Nat} (hp : pv = .row el r xs hv ver) : v = b.h := by
 subst hp; exact h.2 rfl
theorem linkK_sound {d : Nat} {hs : List (Nat × (Nat × Nat))} {us : List Value} : ∀ (ks done : List Nat) (cs : List DV) {e : Env} {g : Gh} {c : List DV → Prog}, St w0 T f0 n e a W g → e (.box d) = .unk → Cells g.fix W cs us → NilTips cs us →
  (∀ x ∈ hs, x.2.1 < 2000000 → ∃ u, us[x.1]? = some u ∧ HOk (e (.box x.2.1)) (g.bx x.2.1) x.2.2 u) → (∀ k ∈ done, us[k]? = some (g.bx (lk d k)).h) → (linkK G d hs ks cs c).run e some = some e' →
  ∃ cs' e1 g1, (c cs').run e1 some = some e' ∧ St w0 T f0 n e1 a W g1 ∧ g1.fix = g.fix ∧ e1 (.box d) = .unk ∧ Cells g1.fix W cs' us ∧ NilTips cs' us ∧ ∀ k, k ∈ done ∨ k ∈ ks → us[k]? = some (g1.bx (lk d k)).h
 | [], done, cs, e, g, c, h, hd, hc, hn, hh, hdone, hr => ⟨cs, e, g, hr, h, rfl, hd, hc, hn, fun k hk => hdone k (by simpa using hk)⟩
 | k :: ks, done, cs, e, g, c, h, hd, hc, hn, hh, hdone, hr => by
  simp only [linkK] at hr
  obtain ⟨hchk, hr⟩ := chk_run hr
  simp only [Bool.and_eq_true, Nat.blt_eq] at hchk
  obtain ⟨hk, hbx⟩ := hchk
  -- when the row has come
  have fin : ∀ {e1 : Env} {g1 : Gh} {q : Lab} {v : Value} {el : TypeId} {r : Ty} {xs : List r.D} {cs1 : List DV}, St w0 T f0 n e1 a W g1 → g1.fix = g.fix → g1.bx = g.bx → e1 (.box d) = .unk → Free e1 q → RowAt g1.fix g1.own W q v el r xs → r.plain = true → us[k]? = some v → Cells g.fix W cs1 us → NilTips cs1 us →
    (∀ x ∈ hs, x.2.1 < 2000000 → ∃ u, us[x.1]? = some u ∧ HOk (e1 (.box x.2.1)) (g.bx x.2.1) x.2.2 u) → (placeRow0 (lk d k) el r xs fun _ => linkK G d hs ks cs1 c).run e1 some = some e' →
    ∃ cs' e1 g1, (c cs').run e1 some = some e' ∧ St w0 T f0 n e1 a W g1 ∧ g1.fix = g.fix ∧ e1 (.box d) = .unk ∧ Cells g1.fix W cs' us ∧ NilTips cs' us ∧ ∀ k', k' ∈ done ∨ k' ∈ k :: ks → us[k']? = some (g1.bx (lk d k')).h := by
   intro e1 g1 q v el r xs cs1 h1 hf hb hd1 hq hrow hpl hu hc1 hn1 hh1 hr1
   obtain ⟨hv2, ver2, g2, q1, q2, q3, q4, q5, -⟩ := placeRowG_sound h1 (.inr (lk_ge d k)) hq hrow (fun _ => undef) (fun _ _ => .plain hpl) (fun i' k' hk' hl => by
    obtain ⟨hk2, B, cs2, ver3, hbx2, -⟩ := lnkAt_iff.1 hl
    obtain ⟨rfl, rfl⟩ := lk_inj hk2 hk hk'
    rw [hd1] at hbx2; cases hbx2) hr1
   have hkd : ¬ d = lk d k := fun hh => lk_ne d k hh.symm
   obtain ⟨cs', e3, g3, r1, r2, r3, r4, r5, r6, r7⟩ := linkK_sound ks (k :: done) cs1 q2 (by simp [Env.set, hkd, hd1]) (by rw [q3, hf]; exact hc1) hn1 (fun x hx hlt => by
    obtain ⟨u, s1, s2⟩ := hh1 x hx hlt
    have hne : x.2.1 ≠ lk d k := fun hh => by have := lk_ge d k; omega
    refine ⟨u, s1, ?_⟩
    rw [q5 _ hne, hb]
    simpa [Env.set, hne] using s2) (fun k' hk' => by
    by_cases he : lk d k' = lk d k
    ·have : k' = k := by unfold lk at he; omega
     subst this
     rw [q4]; exact hu
    ·rw [q5 _ he, hb]
     rcases List.mem_cons.1 hk' with hk' | hk'
     ·exact absurd (by rw [hk']) he
     ·exact hdone k' hk') q1
   refine ⟨cs', e3, g3, r1, r2, r3.trans (q3.trans hf), r4, r5, r6, fun k' hk' => r7 k' ?_⟩
   rcases hk' with hk' | hk'
   ·exact .inl (List.mem_cons_of_mem _ hk')
   ·rcases List.mem_cons.1 hk' with hk' | hk'
    ·exact .inl (by rw [hk']; exact List.mem_cons_self)
    ·exact .inr hk'
  split at hr
  ·rename_i j hv hlook
   obtain ⟨el, r, xs, ver, hb, hr⟩ := seeRow_run hr
   obtain ⟨hchk, hr⟩ := chk_run hr
   simp only [Bool.and_eq_true, Nat.blt_eq] at hchk
   obtain ⟨hpl, -, hjl⟩ := hchk
   simp only [Prog.run] at hr
   obtain ⟨u, hu, hok⟩ := hh _ (lookL_mem hlook) hjl
   have huv := hok.row hb
   obtain ⟨h1, hrow, hq⟩ := h.leave hb
   rw [← huv] at hrow
   have hdj : ¬ d = j := fun hh => by subst hh; rw [hd] at hb; cases hb
   refine fin h1 rfl rfl (by simp [Env.set, hdj, hd]) hq hrow hpl hu hc hn (fun x hx hlt => ?_) hr
   obtain ⟨u', s1, s2⟩ := hh x hx hlt
   refine ⟨u', s1, ?_⟩
   by_cases hxj : x.2.1 = j
   ·rw [hxj] at s2 ⊢
    rw [hb] at s2
    simp only [Env.set, if_true]
    exact s2.1
   ·simpa [Env.set, hxj] using s2
  ·split at hr
   ·rename_i el r x hnth
    obtain ⟨hpl, hr⟩ := chk_run hr
    rw [nth_at] at hnth
    have hu := (hn k _ hnth rfl).2
    have hkl : k < cs.length := (List.getElem?_eq_some_iff.1 hnth).1
    refine fin h rfl rfl hd (free_arg e 0) (RowAt.nil _ _ _ _ _ _) hpl hu ?_ ?_ hh hr
    ·rw [putCells_one hkl]
     refine Cells.of_get (by rw [List.length_set]; exact hc.len) fun j dv w hj hw => ?_
     rw [List.getElem?_set] at hj
     split at hj
     ·rename_i he
      subst he
      injection hj with hj
      subst hj
      rw [hu] at hw
      injection hw with hw
      subst hw
      exact ⟨_, rfl, rfl⟩
     ·obtain ⟨w', hw', hr'⟩ := hc.get j dv hj
      rw [hw'] at hw
      injection hw with hw
      subst hw
      exact hr'
    ·intro j dv hj ht
     rw [putCells_one hkl, List.getElem?_set] at hj
     split at hj
     ·rename_i he
      subst he
      injection hj with hj
      subst hj
      cases ht
     ·exact hn j dv hj ht
   ·simp [Prog.run] at hr
theorem boxH_sound (h : St w0 T f0 G.n e a W g) (hd : dstOk G.n o.dst = true) {d : Nat} (hdst : o.dst = some d) {t : TypeId} {ks : List Nat} {cs : List DV} {hs : List (Nat × (Nat × Nat))} {vs : Array Value} (hc : Cells g.fix W cs vs.toList) (ht : NilTips cs vs.toList)
  (hh : ∀ x ∈ hs, ∃ u, vs[x.1]? = some u ∧ HOk (e (.box x.2.1)) (g.bx x.2.1) x.2.2 u) (hr : (boxH G o.dst d t ks cs hs).run e some = some e')
  (he : (execOp a.eval o).run P W = .ok (.value (.pointer (some ⟨W.heap.size, 0, none⟩))) (W.alloc (.cells vs t))) (hK : ∀ a' W' g', St w0 T f0 G.n e' a' W' g' → K a' W') : o.wp P a W K Q := by
 unfold boxH at hr
 simp only [Prog.run] at hr
 split at hr
 ·rename_i hu
  obtain ⟨cs', e1, g1, hr1, h1, hf, hd1, hc1, hn1, hk⟩ := linkK_sound ks [] cs h hu hc ht (fun x hx _ => by
   obtain ⟨u, s1, s2⟩ := hh x hx
   exact ⟨u, by simpa using s1, s2⟩) (fun k hk => by cases hk) hr
  obtain ⟨hin, hr1⟩ := chk_run hr1
  simp only [Prog.run] at hr1
  rw [put_run hr1] at hK
  obtain ⟨g', hb, h'⟩ := h1.newBox (d := d) (dst_lt hd d hdst) (by rw [hd1]; rfl) hc1 hn1 (fun k _ hl _ => by
   have := hk k (.inr (by have := lnkIn_spec hin k hl; rwa [Nat.zero_add] at this))
   simpa using this) t 0
  refine wp_value he (hK _ _ _ (h'.putDst hd (fun d' hd' => ?_) ?_))
  ·show _ = _
   rw [hb]
  ·simp [PtrOk, Env.set, PV.isCell]
 ·simp [Prog.run] at hr
theorem buildH_sound (h : St w0 T f0 n e a W g) {t : TypeId} {ty : Ty} (ht : TyOk P t ty) {place : Nat → Option (Nat × Nat)} (hpl : ∀ i off ft, ty.fld i = some (off, ft) → place i = some (off, ft.sz)) : ∀ (parts : List (Nat × Operand)) (cs : List DV) (hs : List (Nat × (Nat × Nat))) (Z : Array Value) {k : List DV → List (Nat × (Nat × Nat)) → Prog} {e' : Env}, Cells g.fix W cs Z.toList → cs.length = ty.sz → NilTips cs Z.toList →
  (∀ x ∈ hs, ∃ u, Z[x.1]? = some u ∧ HOk (e (.box x.2.1)) (g.bx x.2.1) x.2.2 u) →
  (buildH ty parts cs hs k).run e some = some e' → ∃ cs' hs' Z', Instr.fill place Z (parts.map fun p => (p.1, a.eval p.2)) = some Z' ∧ Cells g.fix W cs' Z'.toList ∧ NilTips cs' Z'.toList ∧ (∀ x ∈ hs', ∃ u, Z'[x.1]? = some u ∧ HOk (e (.box x.2.1)) (g.bx x.2.1) x.2.2 u) ∧ (k cs' hs').run e some = some e'
 | [], cs, hs, Z, k, e', hc, _, hn, hh, hr => ⟨cs, hs, Z, rfl, hc, hn, hh, hr⟩
 | (i, x) :: l, cs, hs, Z, k, e', hc, hlen, hn, hh, hr => by
  simp only [buildH] at hr
  split at hr
  ·rename_i off ft hf
   obtain ⟨fs, fd, k1, k2, k3, k4, k5, k6⟩ := ht.field hf
   have hcl := hc.len
   have hzl : Z.size = ty.sz := by simp at hcl; omega
   -- the rest, when a part is known
   have fin : ∀ (ds : List DV) (hs2 : List (Nat × (Nat × Nat))), Cells g.fix W ds (a.eval x).cells.toList → ds.length = ft.sz → (∀ d ∈ ds, d.tip = false) → (∀ y ∈ hs2, (∃ u, (a.eval x).cells.toList = [u] ∧ y.1 = off ∧ HOk (e (.box y.2.1)) (g.bx y.2.1) y.2.2 u) ∨ (y ∈ hs ∧ (y.1 < off ∨ off + ft.sz ≤ y.1))) →
     (buildH ty l (putCells cs off ds) hs2 k).run e some = some e' → ∃ cs' hs' Z', Instr.fill place Z (((i, x) :: l).map fun p => (p.1, a.eval p.2)) = some Z' ∧ Cells g.fix W cs' Z'.toList ∧ NilTips cs' Z'.toList ∧ (∀ x ∈ hs', ∃ u, Z'[x.1]? = some u ∧ HOk (e (.box x.2.1)) (g.bx x.2.1) x.2.2 u) ∧ (k cs' hs').run e some = some e' := by
    intro ds hs2 hcells hds htips hh2 hr
    have hsl := hcells.len
    have hsz : (a.eval x).cells.size = ft.sz := by have : (a.eval x).cells.size = (a.eval x).cells.toList.length := by simp
                                                   rw [this, ← hsl, hds]
    have hstep := fill_step place Z i off ft.sz (a.eval x) (l.map fun p => (p.1, a.eval p.2)) (hpl i off ft hf) hsz (by omega)
    have hss : (a.eval x).cells.size = ds.length := by rw [hsz, hds]
    obtain ⟨cs', hs', Z', q1, q2, q4, q5, q3⟩ := buildH_sound h ht hpl l (putCells cs off ds) hs2 (Z.toList.take off ++ (a.eval x).cells.toList ++ Z.toList.drop (off + (a.eval x).cells.size)).toArray (by
     rw [List.toList_toArray, hss]
     exact ((hc.take off).append hcells).append (hc.drop _)) (by
     simp only [putCells, List.length_append, List.length_take, List.length_drop]
     omega) (by
     have hss2 : (a.eval x).cells.size = (a.eval x).cells.toList.length := by simp
     rw [List.toList_toArray, hss2]
     exact hn.put htips hsl (by omega) hcl) (fun y hy => by
     have htl : (Z.toList.take off).length = off := by rw [List.length_take]; simp; omega
     rcases hh2 y hy with ⟨u, s1, s2, s3⟩ | ⟨s1, s2⟩
     ·refine ⟨u, ?_, s3⟩
      rw [s2, List.getElem?_toArray, List.append_assoc, List.getElem?_append_right (by omega), htl, Nat.sub_self, s1]
      rfl
     ·obtain ⟨u, u1, u2⟩ := hh y s1
      refine ⟨u, ?_, u2⟩
      rw [List.getElem?_toArray]
      rcases s2 with s2 | s2
      ·rw [List.append_assoc, List.getElem?_append_left (by omega), List.getElem?_take, if_pos s2]; simpa using u1
      ·rw [List.append_assoc, List.getElem?_append_right (by omega), htl, List.getElem?_append_right (by simp only [Array.length_toList]; omega), List.getElem?_drop]
       have : off + (a.eval x).cells.size + (y.1 - off - (a.eval x).cells.toList.length) = y.1 := by simp only [Array.length_toList]; omega
       rw [this]; simpa using u1) hr
    exact ⟨cs', hs', Z', by rw [List.map_cons, hstep]; exact q1, q2, q4, q5, q3⟩
   obtain ⟨pv, hr1, hdat, hp⟩ := getV_sound h hr
   split at hr1
   ·rename_i j hv
    obtain ⟨el, r, xs, ver, hb, hr2⟩ := seeRow_run hr1
    obtain ⟨hchk, hr3⟩ := chk_run hr2
    simp only [Bool.and_eq_true] at hchk
    have hft := eqTy_iff.1 hchk.1
    subst hft
    obtain ⟨hveq, hrow⟩ := hdr_row h hp hb
    obtain ⟨m1, m2, m3⟩ := hrow.cell
    refine fin [lnkDV] _ (by rw [m3]; exact ⟨⟨_, rfl, m2⟩, trivial⟩) rfl (fun d hd => by simp at hd; subst hd; rfl) (fun y hy => ?_) hr3
    rcases List.mem_cons.1 hy with hy | hy
    ·subst hy
     exact .inl ⟨_, m3, rfl, hp⟩
    ·have := List.all_eq_true.1 hchk.2 y hy
     simp only [Bool.or_eq_true, Nat.blt_eq] at this
     exact .inr ⟨hy, this.imp id fun h => by simp only [Ty.sz]; omega⟩
   ·obtain ⟨y, hr2, hy⟩ := getD_sound h hr1
    obtain ⟨hchk, hr3⟩ := chk_run hr2
    have hcells := Cells.split _ _ _ hy.2
    refine fin (ft.split y) hs hcells (by rw [hcells.len]; exact hy.2.len) (split_tips ft y) (fun z hz => ?_) hr3
    have := List.all_eq_true.1 hchk z hz
    simp only [Bool.or_eq_true, Nat.blt_eq] at this
    exact .inr ⟨hz, this.imp id fun h => Nat.le_of_ble_eq_true h⟩
  ·simp [Prog.run] at hr
theorem sound_buildH {t : TypeId} {parts : Array (Nat × Operand)} {ty : Ty} (hG : CtxTys P G) (ho : o.op = .build t parts) (hty : look t G.ty = some ty) (h : St w0 T f0 G.n e a W g) (hd : dstOk G.n o.dst = true) (hag : ty.isAgg = true)
  (hr : (buildH ty parts.toList (zeros ty) [] fun cs hs => put o.dst (.aggh cs hs) .done).run e some = some e') (hK : ∀ a' W' g', St w0 T f0 G.n e' a' W' g' → K a' W') : o.wp P a W K Q := by
 have htk := hG _ _ hty
 have hzp := htk.plain
 obtain ⟨place, z, hpl, hz, hex⟩ := build_core (a := a) (o := o) htk hag W
 obtain ⟨cs', hs', Z', q1, q2, q3, q4, q5⟩ := buildH_sound h htk hpl parts.toList (zeros ty) [] z (by rw [hz]; exact zeros_cells _ _ _ hzp) (by rw [(zeros_cells g.fix W ty hzp).len, (zero_rep g.fix W ty hzp).len]) (by rw [hz]; exact zeros_nils _ hzp) (fun x hx => by cases hx) hr
 rw [put_run q5] at hK
 refine wp_value (hex parts Z' ho q1) (hK _ _ _ (h.putDst hd (fun d hd' => ⟨Z', rfl, q2, q3⟩) ⟨Z', rfl, q4⟩))
theorem link_cell (h : St w0 T f0 n e a W g) {i lo : Nat} {B : TypeId} {cs : List DV} {ver : Nat} (hb : e (.box i) = .box B cs ver) (hl : cellLnk cs lo = true) (hlo : lo < 1000) (ht : (e (.box (lk i lo))).there = true) : W.cell? ⟨(g.bx i).b, lo, none⟩ = some (g.bx (lk i lo)).h :=
 h.lnks i lo (lnkAt_iff.2 ⟨hlo, B, cs, ver, hb, hl⟩) ht
theorem sound_loadK {t : TypeId} {x : Operand} {i lo hv ver ver' : Nat} {B e1 : TypeId} {r1 : Ty} {xs : List r1.D} {cs : List DV} {el : TypeId} {r : Ty} (hG : CtxTys P G) (ho : o.op = .load t x) (hty : look t G.ty = some (.sl el r)) (h : St w0 T f0 G.n e a W g) (hd : dstOk G.n o.dst = true) (hdat : Dat g W (.bptr i lo) (a.eval x))
  (hb : e (.box i) = .box B cs ver) (hl : cellLnk cs lo = true) (hlo : lo < 1000) (hk : e (.box (lk i lo)) = .row e1 r1 xs hv ver') (hr : (put o.dst (.hdr (lk i lo) hv) .done).run e some = some e') (hK : ∀ a' W' g', St w0 T f0 G.n e' a' W' g' → K a' W') : o.wp P a W K Q := by
 have htk := hG _ _ hty
 have hv' : a.eval x = .pointer (some ⟨(g.bx i).b, lo, none⟩) := hdat
 have hcell := link_cell h hb hl hlo (by rw [hk]; rfl)
 have hag : (Ty.sl el r).isAgg = false := rfl
 have hrun : (Instr.loadAt t (.pointer (some ⟨(g.bx i).b, lo, none⟩))).run P W = .ok (g.bx (lk i lo)).h W := by
  simp only [Instr.loadAt, Instr.sureAddr, Sem.run_bind, Sem.run_pure, Result.andThen_ok, loadVar, htk.run_isAgg, hag, Bool.false_eq_true, if_false, run_load]
  rw [hcell]
 rw [put_run hr] at hK
 refine wp_value (v := (g.bx (lk i lo)).h) (by simp [execOp, ho, hv', hrun]) (hK _ _ _ (h.putDst hd (fun _ _ => trivial) ?_))
 show HOk (e (.box (lk i lo))) (g.bx (lk i lo)) hv _
 rw [hk]
 exact ⟨Nat.le_refl _, fun _ => rfl⟩
theorem store_one {w : World} {b lo : Nat} {vs : Array Value} {t : TypeId} (hb : w.heap[b]? = some (.cells vs t (0, 0))) (hlo : lo < vs.size) {u : Value} (hu : u.oneCell' = true) :
  ∃ w', (storeCells ⟨b, lo, none⟩ [u]).run P w = .ok () w' ∧ w'.cell? ⟨b, lo, none⟩ = some u ∧ ∀ k, k ≠ b → w'.heap[k]? = w.heap[k]? := by
 have hrun := run_storeCells_at P b lo t [u] 0 vs w hb (by simp; omega) (fun v hv => by simp at hv; subst hv; exact hu)
 simp only [Nat.add_zero] at hrun
 refine ⟨_, hrun, ?_, fun k hk => setRow_other w b k _ hk⟩
 rw [cell_of_heap (setRow_heap w b vs _ t (0, 0) hb)]
 have htl : (vs.toList.take lo).length = lo := by rw [List.length_take]; simp; omega
 rw [List.getElem?_toArray, List.append_assoc, List.getElem?_append_right (by omega), htl, Nat.sub_self]
 rfl
theorem St.relink (h : St w0 T f0 n e a W g) {i lo : Nat} {B : TypeId} {cs : List DV} {ver : Nat} (hb : e (.box i) = .box B cs ver) (hl : cellLnk cs lo = true) (hk : (e (.box (lk i lo))).there = false) {u : Value} (hu : u.oneCell' = true) :
  ∃ W', (storeCells ⟨(g.bx i).b, lo, none⟩ [u]).run P W = .ok () W' ∧ St w0 T f0 n e a W' g ∧ W'.cell? ⟨(g.bx i).b, lo, none⟩ = some u ∧ (∀ b, b ≠ (g.bx i).b → W'.heap[b]? = W.heap[b]?) := by
 obtain ⟨d, hd1, hd2⟩ := cellLnk_get.1 hl
 have hlo : lo < cs.length := (List.getElem?_eq_some_iff.1 hd1).1
 obtain ⟨t, x, tip⟩ := d
 cases t <;> simp [DV.isLnk] at hd2
 have hbr := h.boxes i
 rw [hb] at hbr
 obtain ⟨vs, k1, k2, k3, k4, k5⟩ := hbr
 have htip : tip = false := by
  cases tip with
  | false => rfl
  | true =>
   obtain ⟨u', -, ht⟩ := k5 lo _ hd1 rfl
   simp [Tip] at ht
 subst htip
 obtain ⟨W', hrun, h1⟩ := h.write (P := P) hb (lo := lo) (ds := [⟨.any, x, false⟩]) (us := [u]) ⟨⟨_, rfl, hu⟩, trivial⟩ (by simp; omega) (fun j d' hj ht => by cases j <;> simp at hj; subst hj; cases ht) (fun v hv => by simp at hv; subst hv; exact hu) (fun k hk' => by
  cases k with
  | zero => simpa using hk
  | succ k => simp [cellLnk] at hk')
 have hput : putCells cs lo [⟨.any, x, false⟩] = cs := by
  rw [putCells_one hlo]
  apply List.ext_getElem?
  intro j
  rw [List.getElem?_set]
  split
  ·rename_i he
   subst he
   exact hd1.symm
  ·rfl
 rw [hput] at h1
 have h1b := h1.boxes i
 simp only [Env.set, if_true] at h1b
 have h2 := h1.setBox' (i := i) (pv := .box B cs ver) h1b (.plain (fun _ => rfl) (by simp [Env.set, PV.isRow])) ⟨fun k hk => by simpa [Env.set, PV.lnkAt] using hk, fun hh => by simp [PV.there] at hh⟩
 have he : (e.set (.box i) (.box B cs (ver + 1))).set (.box i) (.box B cs ver) = e := by
  funext p
  simp only [Env.set]
  split
  ·rename_i hp; rw [hp, hb]
  ·rfl
 rw [he] at h2
 obtain ⟨W2, hrun2, hcell, hoth⟩ := store_one (P := P) (w := W) k1 (show lo < vs.size by have := k4.len; simp at this; omega) hu
 rw [hrun2] at hrun
 injection hrun with _ hrun
 subst hrun
 exact ⟨W2, hrun2, h2, hcell, hoth⟩
theorem sound_storeK {t : TypeId} {x y : Operand} {i lo s hs : Nat} {ty : Ty} {B : TypeId} {cs : List DV} {ver : Nat} (hG : CtxTys P G) (ho : o.op = .store t x y) (hty : look t G.ty = some ty) (h : St w0 T f0 G.n e a W g) (hdat : Dat g W (.bptr i lo) (a.eval x)) (hp : PtrOk e g (.hdr s hs) (a.eval y))
  (hb : e (.box i) = .box B cs ver) (hl : cellLnk cs lo = true) (hdst : o.dst = none) (hr : (storeK G ty i lo s hs).run e some = some e') (hK : ∀ a' W' g', St w0 T f0 G.n e' a' W' g' → K a' W') : o.wp P a W K Q := by
 unfold storeK at hr
 obtain ⟨el, r, xs, ver1, hbs, hr2⟩ := seeRow_run hr
 clear hr
 obtain ⟨hchk, hr⟩ := chk_run hr2
 clear hr2
 simp only [Bool.and_eq_true, Nat.blt_eq] at hchk
 obtain ⟨hty1, hpl, -, -, hlo, hs2, -⟩ := hchk
 have hty1 := eqTy_iff.1 hty1
 subst hty1
 simp only [Prog.run] at hr
 have htk := hG _ _ hty
 have hv : a.eval x = .pointer (some ⟨(g.bx i).b, lo, none⟩) := hdat
 obtain ⟨hveq, hrow⟩ := hdr_row h hp hbs
 obtain ⟨m1, m2, m3⟩ := hrow.cell
 obtain ⟨h1, hrow1, hq⟩ := h.leave hbs
 rw [← hveq] at hrow1
 have hsi : ¬ i = s := fun hh => by subst hh; rw [hb] at hbs; cases hbs
 have hsk : ¬ lk i lo = s := fun hh => by have := lk_ge i lo; omega
 have hki : ¬ i = lk i lo := fun hh => lk_ne i lo hh.symm
 have hb1 : (e.set (.box s) (.gone hs (ver1 + 1))) (.box i) = .box B cs ver := by simp [Env.set, hsi, hb]
 generalize hE : e.set (.box s) (.gone hs (ver1 + 1)) = E at h1 hq hr hb1
 -- the place without its row; the write; the row
 have go : ∀ (p0 : PV) (hvN verN : Nat), St w0 T f0 G.n (E.set (.box (lk i lo)) p0) a W g → p0.there = false → p0.isCell = false → (∀ b x v, HOk p0 b x v → x < hvN) → (∀ b x i o sz v, RpOk p0 b x i o sz v → x < hvN) →
   (∀ b x y i o v, ShOk p0 b x y i o v → x < hvN) → (∀ b x y i o i2 o2 sz2 v, SpOk p0 b x y i o i2 o2 sz2 v → x < hvN) → Free (E.set (.box (lk i lo)) p0) (.box s) → E.set (.box (lk i lo)) (.row el r xs hvN verN) = e' → o.wp P a W K Q := by
  intro p0 hvN verN h2 ht0 hc0 c1 c2 c3 c4 hq2 he
  obtain ⟨W', hrun, h3, hcell, hoth⟩ := h2.relink (P := P) (i := i) (lo := lo) (B := B) (cs := cs) (ver := ver) (u := a.eval y) (by simp [Env.set, hki, hb1]) hl (by simp [Env.set, ht0]) m2
  obtain ⟨g4, f1, f2, h4, hrow4, -⟩ := h3.relabelRow (.box (lk i lo)) hq2 (xs := xs) (el := el) (r := r) (v := a.eval y) (by
   refine hrow1.move (X := fun q => q = .box i) (g' := g) ⟨fun b o hf => ⟨hf, fun u hu => ?_⟩, fun b q hbq hne => ⟨hbq, hoth b fun hh => ?_, fun _ h => h⟩⟩ (fun hh => by injection hh with hh; exact hsi hh.symm)
   ·have hbr := h1.boxes i
    rw [hb1] at hbr
    obtain ⟨vs, -, -, k3, -⟩ := hbr
    have : b ≠ (g.bx i).b := fun hh => by subst hh; exact k3 o hf
    rw [World.cell?_of_block (w := W) (hoth b this)]; exact hu
   ·have hbr := h1.boxes i
    rw [hb1] at hbr
    obtain ⟨vs, -, k2, -⟩ := hbr
    rw [hh, k2] at hbq
    injection hbq with hbq
    exact hne hbq.symm)
  have h5 := h4.rebox (d := lk i lo) (pv := .row el r xs hvN verN) (B := ⟨0, a.eval y, fun _ => undef⟩) (.inr (.inl (lk_ge i lo))) (fun _ => rfl) (fun _ i' k' hk' hl' => by
    obtain ⟨hk2, -⟩ := lnkAt_iff.1 hl'
    obtain ⟨rfl, rfl⟩ := lk_inj hk2 hlo hk'
    rw [f2]; exact hcell) (by simp [Env.set, hc0])
   (fun x v hx => by simp only [Env.set, if_true] at hx; have := c1 _ _ _ hx; exact ⟨Nat.le_of_lt this, fun he => by omega⟩)
   (fun x i o sz v hx => by simp only [Env.set, if_true] at hx; have := c2 _ _ _ _ _ _ hx; exact ⟨Nat.le_of_lt this, fun he => by omega⟩)
   (fun x y i o v hx => by simp only [Env.set, if_true] at hx; have := c3 _ _ _ _ _ _ hx; exact ⟨Nat.le_of_lt this, fun he => by omega⟩)
   (fun x y i o i2 o2 sz2 v hx => by simp only [Env.set, if_true] at hx; have := c4 _ _ _ _ _ _ _ _ _ hx; exact ⟨Nat.le_of_lt this, fun he => by omega⟩)
   (by simp only [BRep, Gh.at, if_true]; exact ⟨hrow4, .plain hpl⟩)
  have he2 : (E.set (.box (lk i lo)) p0).set (.box (lk i lo)) (.row el r xs hvN verN) = e' := by
   rw [← he]; funext p; simp only [Env.set]; split <;> rfl
  rw [he2] at h5
  refine wp_skip' (W' := W') ?_ ?_
  ·have hsz : (a.eval y).cells.size = (Ty.sl el r).sz := by have := congrArg List.length m3; simpa [Ty.sz] using this
   simp [execOp, ho, hv, Instr.storeAt, Instr.sureAddr, storeVar, htk.run_size, hsz, m3, hrun]
  ·rw [hdst]; exact hK _ _ _ h5
 simp only [placeRow0, Prog.run] at hr
 have hself : ∀ p0, E (.box (lk i lo)) = p0 → E.set (.box (lk i lo)) p0 = E := fun p0 hp0 => by
  funext p; simp only [Env.set]; split
  ·rename_i hp; rw [hp, hp0]
  ·rfl
 split at hr
 ·rename_i hu
  simp only [Prog.run, Option.some.injEq] at hr
  refine go .unk 0 0 (by rw [hself _ hu]; exact h1) rfl rfl (fun _ _ _ h => h.elim) (fun _ _ _ _ _ _ h => h.elim) (fun _ _ _ _ _ _ h => h.elim) (fun _ _ _ _ _ _ _ _ _ h => h.elim) (by rw [hself _ hu]; exact hq) hr
 ·rename_i hv0 ver0 hu
  simp only [Prog.run, Option.some.injEq] at hr
  refine go (.gone hv0 ver0) (hv0 + 1) (ver0 + 1) (by rw [hself _ hu]; exact h1) rfl rfl (fun _ _ _ h => Nat.lt_succ_of_le h) (fun _ _ _ _ _ _ h => Nat.lt_succ_of_le h) (fun _ _ _ _ _ _ h => Nat.lt_succ_of_le h) (fun _ _ _ _ _ _ _ _ _ h => Nat.lt_succ_of_le h) (by rw [hself _ hu]; exact hq) hr
 ·rename_i e0 r0 xs0 hv0 ver0 hu
  simp only [Prog.run, Option.some.injEq] at hr
  obtain ⟨h2, -, -⟩ := h1.leave hu
  refine go (.gone hv0 (ver0 + 1)) (hv0 + 1) (ver0 + 1) h2 rfl rfl (fun _ _ _ h => Nat.lt_succ_of_le h) (fun _ _ _ _ _ _ h => Nat.lt_succ_of_le h) (fun _ _ _ _ _ _ h => Nat.lt_succ_of_le h) (fun _ _ _ _ _ _ _ _ _ h => Nat.lt_succ_of_le h) ?_ hr
  refine ⟨fun t ht => (by cases ht), fun i' T' cs' v' hbx => ⟨fun heq => ?_, fun j d hj => (by cases hj)⟩, fun i' hbx => ⟨fun heq => ?_, fun k hk => (by cases hk)⟩⟩
  ·have : ¬ i' = lk i lo := fun hh => by subst hh; simp [Env.set] at hbx
   have hbx' : E (.box i') = .box T' cs' v' := by simpa [Env.set, this] using hbx
   exact (hq.2.1 i' T' cs' v' hbx').1 heq
  ·have : ¬ i' = lk i lo := fun hh => by subst hh; simp [Env.set, PV.isR] at hbx
   have hbx' : (E (.box i')).isR = true := by simpa [Env.set, this] using hbx
   exact (hq.2.2 i' hbx').1 heq
 ·simp [Prog.run] at hr
end
end Go.PM
