/- PM: each operation, sound: the fourth part: append. -/
import Derived.Test.YtibkgmpfncacpaaPMOpsC
namespace Go.PM
open Go
section
variable {fix fix' : Nat → Nat → Prop} {W W' : World} {r : Ty}
theorem Rows.nil : Rows fix W r [] [] := ⟨by simp, fun i x h => by simp at h⟩
theorem Rows.append {xs ys : List r.D} {cs ds : List Value} (h : Rows fix W r xs cs) (k : Rows fix W r ys ds) : Rows fix W r (xs ++ ys) (cs ++ ds) := by
 refine ⟨by simp [h.1, k.1, Nat.add_mul], fun i x hx => ?_⟩
 rcases Nat.lt_or_ge i xs.length with hi | hi
 ·rw [List.getElem?_append_left hi] at hx
  have h1 : i * r.sz + r.sz ≤ cs.length := by rw [h.1, ← Nat.succ_mul]; exact Nat.mul_le_mul_right _ hi
  rw [List.drop_append_of_le_length (by omega), List.take_append_of_le_length (by rw [List.length_drop]; omega)]
  exact h.2 i x hx
 ·rw [List.getElem?_append_right hi] at hx
  have he : i * r.sz = cs.length + (i - xs.length) * r.sz := by rw [h.1, ← Nat.add_mul]; congr 1; omega
  rw [he, List.drop_length_add_append]
  exact k.2 _ x hx
theorem Rows.one {x : r.D} {cs : List Value} (h : Rep fix W r x cs) : Rows fix W r [x] cs := by
 have hl := h.len
 refine ⟨by simp [hl], fun i y hy => ?_⟩
 cases i with
 | zero => simp at hy; subst hy; simp [← hl, h]
 | succ i => simp at hy
theorem Rows.oneCell {xs : List r.D} {cs : List Value} (k : Rows fix W r xs cs) : ∀ u ∈ cs, u.oneCell' = true := by
 intro u hu
 obtain ⟨j, hj⟩ := List.mem_iff_getElem?.1 hu
 have hlt : j < cs.length := (List.getElem?_eq_some_iff.1 hj).1
 rw [k.1] at hlt
 have hsz : 0 < r.sz := by rcases Nat.eq_zero_or_pos r.sz with h | h; · rw [h] at hlt; simp at hlt
                           ·exact h
 have hi : j / r.sz < xs.length := Nat.div_lt_of_lt_mul (by rw [Nat.mul_comm]; exact hlt)
 have hr := k.2 _ _ (List.getElem?_eq_getElem hi)
 refine hr.one _ _ _ u (List.mem_iff_getElem?.2 ⟨j % r.sz, ?_⟩)
 rw [List.getElem?_take, if_pos (Nat.mod_lt _ hsz), List.getElem?_drop]
 have : j / r.sz * r.sz + j % r.sz = j := by rw [Nat.mul_comm]; exact Nat.div_add_mod j r.sz
 rw [this]; exact hj
theorem Rep.inner {e : TypeId} {xs : List r.D} {v : Value} (h : Rep fix W (.sl e r) xs [v]) : ∃ cs, Rows fix W r xs cs ∧ ∃ A c, v = .slice A xs.length c ∧ LenOk xs.length c ∧
  (xs ≠ [] → ∃ ad, A = some ad ∧ ad.spot = none ∧ ∀ (j : Nat) u, cs[j]? = some u → fix ad.block (ad.off + j) ∧ W.cell? ⟨ad.block, ad.off + j, none⟩ = some u) := by
 obtain ⟨A, c, e1, e2, e3⟩ := h
 have hv : v = .slice A xs.length c := by injection e1
 by_cases hn : xs = []
 ·subst hn
  exact ⟨[], Rows.nil, A, c, hv, e2, fun h => absurd rfl h⟩
 ·obtain ⟨ad, hA, hs, hc⟩ := e3 hn
  have key : ∀ m, m ≤ xs.length → ∃ cs, Rows fix W r (xs.take m) cs ∧ ∀ (j : Nat) u, cs[j]? = some u → fix ad.block (ad.off + j) ∧ W.cell? ⟨ad.block, ad.off + j, none⟩ = some u := by
   intro m
   induction m with
   | zero => exact fun _ => ⟨[], by simpa using Rows.nil, fun j u hu => by simp at hu⟩
   | succ m ih =>
    intro hm
    obtain ⟨cs, hr, hcell⟩ := ih (by omega)
    obtain ⟨ci, hci, hcc⟩ := hc m _ (List.getElem?_eq_getElem (show m < xs.length by omega))
    refine ⟨cs ++ ci, ?_, fun j u hu => ?_⟩
    ·rw [List.take_succ_eq_append_getElem (show m < xs.length by omega)]
     exact hr.append (Rows.one hci)
    ·have hl : cs.length = m * r.sz := by rw [hr.1, List.length_take, Nat.min_eq_left (by omega)]
     rcases Nat.lt_or_ge j cs.length with hj | hj
     ·rw [List.getElem?_append_left hj] at hu; exact hcell j u hu
     ·rw [List.getElem?_append_right hj] at hu
      have := hcc _ u hu
      rw [show ad.off + m * r.sz + (j - cs.length) = ad.off + j by omega] at this
      exact this
  obtain ⟨cs, hr, hcell⟩ := key xs.length (Nat.le_refl _)
  rw [List.take_length] at hr
  exact ⟨cs, hr, A, c, hv, e2, fun _ => ⟨ad, hA, hs, hcell⟩⟩
theorem Rep.of_rows {e : TypeId} {xs : List r.D} {cs : List Value} (h : Rows fix W r xs cs) {b off c : Nat} (hc : LenOk xs.length c) (hcell : ∀ (j : Nat) u, cs[j]? = some u → fix b (off + j) ∧ W.cell? ⟨b, off + j, none⟩ = some u) :
  Rep fix W (.sl e r) xs [.slice (some ⟨b, off, none⟩) xs.length c] := by
 refine ⟨_, c, rfl, hc, fun _ => ⟨_, rfl, rfl, fun i x hx => ⟨_, h.2 i x hx, fun j u hu => ?_⟩⟩⟩
 rw [List.getElem?_take] at hu
 split at hu
 ·rw [List.getElem?_drop] at hu
  have := hcell _ u hu
  rw [← Nat.add_assoc] at this
  exact this
 ·cases hu
end
theorem run_append_zero {P : Program} {t ty e : TypeId} {i : TypeInfo} (ht : P.underlying t = some (.slice e)) (hi : P.info? e = some i) (A B : Option Addr) (n cap c : Nat) (hn : n ≤ cap) (hA : A = none → n = 0 ∧ cap = 0) (W : World) :
  (Builtin.append_ #[t, t] ty #[.slice A n cap, .slice B 0 c]).run P W = .ok (.slice A n cap) W := by
 cases A <;> cases B <;> simp [Builtin.append_, run_underlying ht, sizeOf, typeInfo, hi, Builtin.lenOf, Builtin.firstCells, hn, loadCells, loadCellsFrom, storeCells]
section
variable {P : Program} {w0 : World} {T : Nat → Prop} {f0 : F0} {n : Nat} {e : Env} {a : Act} {W : World} {g : Gh}
theorem St.newRow (h : St w0 T f0 n e a W g) (W1 : World) (h1 : W1.heap = W.heap) (ho : W1.os = W.os) (ht : W1.tape = W.tape) (hou : W1.output = W.output) (cells : Array Value) (el : TypeId) (m : Nat) (q' : Lab) :
  let W' := W1.alloc (.cells cells el)
  let g' : Gh := { g with fix := fun b o => g.fix b o ∨ (b = W.heap.size ∧ o < m), own := fun b => if b = W.heap.size then some q' else g.own b }
  St w0 T f0 n e a W' g' ∧ Move (fun _ => False) W W' g g' ∧ W'.heap[W.heap.size]? = some (.cells cells el (0, 0)) := by
 intro W' g'
 have hsz : W'.heap.size = W.heap.size + 1 := by simp [W', h1]
 have hold : ∀ k, k < W.heap.size → W'.heap[k]? = W.heap[k]? := fun k hk => by
  show (W1.alloc _).heap[k]? = _
  rw [heap_alloc_old W1 _ k (by rw [h1]; exact hk), h1]
 have hnew : W'.heap[W.heap.size]? = some (.cells cells el (0, 0)) := by
  have := heap_alloc_new W1 (.cells cells el)
  rw [h1] at this
  exact this
 have hm : Move (fun _ => False) W W' g g' := by
  refine ⟨fun b o hf => ⟨.inl hf, fun u hu => ?_⟩, fun b q hb _ => ?_⟩
  ·rw [World.cell?_of_block (w := W) (hold b (h.fixLt b o hf))]; exact hu
  ·have hlt := (h.ownNew b q hb).1
   refine ⟨?_, hold b hlt, fun o ho => ?_⟩
   ·have : ¬ b = W.heap.size := by omega
    simp [g', this, hb]
   ·rcases ho with ho | ⟨ho, _⟩
    ·exact ho
    ·omega
 refine ⟨h.move hm (fun _ hx => hx.elim) (fun _ _ => rfl) ho ht hou (by omega) (fun b hb _ => hold b (Nat.lt_of_lt_of_le hb h.size)) (fun b q hb => ?_) (fun b o hf => ?_) (fun b o hb _ hf => ?_), hm, hnew⟩
 ·simp only [g'] at hb
  split at hb
  ·rename_i heq; subst heq
   exact ⟨by omega, fun hlt => by have := h.size; omega⟩
  ·have := h.ownNew b q hb
   exact ⟨by omega, this.2⟩
 ·rcases hf with hf | ⟨hf, _⟩
  ·have := h.fixLt b o hf; omega
  ·omega
 ·rcases hf with hf | ⟨hf, _⟩
  ·exact hf
  ·have := h.size; omega
theorem St.append (h : St w0 T f0 n e a W g) {t ty el : TypeId} {r : Ty} (ht : TyOk P t (.sl el r)) {q : Lab} {v y : Value} {xs ys : List r.D} (hx : Rep g.fix W (.sl el r) xs [v])
  (htip : Tip g.fix g.own W q (.sl el r) v) (hf : v ≠ .slice none 0 0 → Free e q) (hy : Rep g.fix W (.sl el r) ys [y]) (hb : xs.length + ys.length < rowMax) (q' : Lab) :
  ∃ v' W' g', (Builtin.append_ #[t, t] ty #[v, y]).run P W = .ok v' W' ∧ St w0 T f0 n e a W' g' ∧ Value.isAgg v' = false ∧ Rep g'.fix W' (.sl el r) (xs ++ ys) [v'] ∧ Tip g'.fix g'.own W' q' (.sl el r) v' := by
 have hu := ht.sl_und
 obtain ⟨i, z, hi, hsz, hzz, hzc, hpos, hb1, hb2⟩ := ht.sl_info
 have hzs : z.cells.size = r.sz := by
  have h1 := (zero_rep g.fix W r ht.sl_row.plain).len
  rw [← hzc] at h1
  simpa using h1
 have hrm : rowMax = 549755813888 := rfl
 rw [hrm] at hb
 obtain ⟨ds, hds, B, cy, rfl, hcy, hdc⟩ := hy.inner
 by_cases hye : ys = []
 ·subst hye
  simp only [List.append_nil, List.length_nil]
  have htipc := htip
  simp only [Tip] at htip
  obtain ⟨_, _, A0, c0, e0, e1, e2⟩ := hx.inner
  have hAn : A0 = none → xs.length = 0 := fun hA => by
   by_cases hxe : xs = []
   ·rw [hxe]; rfl
   ·obtain ⟨ad, ha, _⟩ := e2 hxe
    rw [ha] at hA; cases hA
  have hrun : (Builtin.append_ #[t, t] ty #[v, .slice B 0 cy]).run P W = .ok v W := by
   rcases htip with ⟨A, m, rfl⟩ | ⟨g1, m1, cap, cur, rfl, h2, h3, _⟩
   ·injection e0 with q1 q2 q3
    exact run_append_zero hu hi A B m m cy (Nat.le_refl _) (fun hA => by rw [q2, hAn (q1 ▸ hA)]; exact ⟨rfl, rfl⟩) W
   ·exact run_append_zero hu hi _ B m1 cap cy h3 (fun h => by cases h) W
  have hag : Value.isAgg v = false := by
   obtain ⟨A, c, e1, _⟩ := hx
   have : v = .slice A xs.length c := by injection e1
   rw [this]; rfl
  rcases htip with hex | ⟨g1, m1, cap, cur, hv1, _⟩
  ·exact ⟨v, W, g, hrun, h, hag, hx, .inl hex⟩
  ·have hvn : v ≠ .slice none 0 0 := by rw [hv1]; simp
   obtain ⟨g', e1, e2, h', ht'⟩ := h.retip q' (hf hvn) htipc
   exact ⟨v, W, g', hrun, h', hag, by rw [e1]; exact hx, ht'⟩
 ·obtain ⟨ad, rfl, hs, hdcell⟩ := hdc hye
  have hnews : ∀ (j : Nat) u, ds[j]? = some u → W.cell? (ad.add j) = some u := fun j u hj => by rw [add_none hs]; exact (hdcell j u hj).2
  have hm : 0 < ys.length := List.length_pos_iff.mpr hye
  have hdl : ds.length = ys.length * i.size := by rw [hds.1, hsz]
  have hbytes : (xs.length + ys.length) * i.bytes ≤ 140737488355328 := Nat.le_trans (Nat.mul_le_mul (Nat.le_of_lt hb) hb2) (by decide)
  -- what is new lies in a row of its own
  have fresh : ∀ (cs : List Value) (rest : Array Value) (cap : Nat), Rows g.fix W r xs cs → xs.length + ys.length ≤ cap → cap ≤ maxLen → (cs.toArray ++ ds.toArray ++ rest).size = cap * r.sz →
    ∃ g', St w0 T f0 n e a (W.drew.alloc (.cells (cs.toArray ++ ds.toArray ++ rest) el)) g' ∧ Rep g'.fix (W.drew.alloc (.cells (cs.toArray ++ ds.toArray ++ rest) el)) (.sl el r) (xs ++ ys) [.slice (some ⟨W.heap.size, 0, none⟩) (xs.length + ys.length) cap] ∧
     Tip g'.fix g'.own (W.drew.alloc (.cells (cs.toArray ++ ds.toArray ++ rest) el)) q' (.sl el r) (.slice (some ⟨W.heap.size, 0, none⟩) (xs.length + ys.length) cap) := by
   intro cs rest cap hcs hcap hcm hsize
   obtain ⟨h', hmv, hnew⟩ := h.newRow W.drew rfl rfl rfl rfl (cs.toArray ++ ds.toArray ++ rest) el ((xs.length + ys.length) * r.sz) q'
   have hrows := ((hcs.append hds).mono hmv.fixed)
   refine ⟨_, h', ?_, .inr ⟨W.heap.size, xs.length + ys.length, cap, _, rfl, hnew, hcap, hcm, hsize, by simp, fun o ho => ?_⟩⟩
   ·have := Rep.of_rows (e := el) hrows (b := W.heap.size) (off := 0) (c := cap) ⟨by simpa using hcap, by simp only [List.length_append, lenMax]; omega⟩ (fun j u hj => ?_)
    ·simpa using this
    ·have hlt : j < (cs ++ ds).length := (List.getElem?_eq_some_iff.1 hj).1
     rw [hrows.1, List.length_append] at hlt
     refine ⟨.inr ⟨rfl, by omega⟩, ?_⟩
     rw [Nat.zero_add, cell_of_heap hnew]
     simp only [List.append_toArray] 
     rw [Array.getElem?_append_left (by have := (List.getElem?_eq_some_iff.1 hj).1; simpa using this)]
     simpa using hj
   ·rcases ho with ho | ⟨_, ho⟩
    ·exact absurd (h.fixLt _ _ ho) (by omega)
    ·exact ho
  obtain ⟨cs, hcs, A, cx, rfl, hcx, hcc⟩ := hx.inner
  have htipc := htip
  simp only [Tip] at htip
  rcases htip with hnil | ⟨g1, m1, cap, cur, hv1, h2, h3, h4, h5, h6, h7⟩
  ·obtain ⟨A', n', hnil⟩ := hnil
   injection hnil with hA hx0 hc0
   have hcl : cx = xs.length := by omega
   subst hcl
   cases A with
   | some ad1 =>
    have hold : ∀ (j : Nat) u, cs[j]? = some u → W.cell? (ad1.add j) = some u := fun j u hj => by
     by_cases hxe : xs = []
     ·subst hxe
      have : cs = [] := List.eq_nil_of_length_eq_zero (by rw [hcs.1]; simp)
      subst this; simp at hj
     ·obtain ⟨ad2, hA2, hs2, hc2⟩ := hcc hxe
      injection hA2 with hA2
      subst hA2
      rw [add_none hs2]
      exact (hc2 j u hj).2
    have hr := run_append_grow (P := P) W t ty el i z hu hi hzz ad1 xs.length xs.length cs (by rw [hcs.1, hsz]) hold ad ys.length cy ds hdl hnews (by omega) (by omega) (growslice_fits (by omega) hbytes)
    have hge := grownCap_ge W (xs.length + ys.length) xs.length el
    have hle := grownCap_le_maxLen W (xs.length + ys.length) xs.length el (by simp only [maxLen]; omega)
    obtain ⟨g', k1, k2, k3⟩ := fresh cs (Builtin.zeroCells z.cells (grownCap W (xs.length + ys.length) xs.length el - (xs.length + ys.length))) (grownCap W (xs.length + ys.length) xs.length el) hcs hge hle (by
     simp only [Array.size_append, List.size_toArray, size_zeroCells, hzs, hds.1, hcs.1, ← Nat.add_mul]
     congr 1; omega)
    exact ⟨_, _, g', hr, k1, rfl, k2, k3⟩
   | none =>
   have hxe : xs = [] := by
    by_cases hxe : xs = []
    ·exact hxe
    ·obtain ⟨ad1, hA1, _⟩ := hcc hxe; cases hA1
   subst hxe
   have hcs0 : cs = [] := List.eq_nil_of_length_eq_zero (by rw [hcs.1]; simp)
   subst hcs0
   have hr := run_append_nil (P := P) W t ty el i z hu hi hzz ad ys.length cy ds hdl hnews hm (by omega) (by simp only [List.length_nil, Nat.zero_add] at hbytes; omega)
   have hge := grownCap_ge W ys.length 0 el
   have hle := grownCap_le_maxLen W ys.length 0 el (by simp only [maxLen]; omega)
   obtain ⟨g', k1, k2, k3⟩ := fresh [] (Builtin.zeroCells z.cells (grownCap W ys.length 0 el - ys.length)) (grownCap W ys.length 0 el) hcs (by simpa using hge) hle (by
    simp only [Array.size_append, List.size_toArray, List.length_nil, Nat.zero_add, size_zeroCells, hzs, hds.1, ← Nat.add_mul]
    congr 1; omega)
   simp only [List.length_nil, Nat.zero_add] at k2 k3 hr ⊢
   have he : (([] : List Value).toArray ++ ds.toArray ++ Builtin.zeroCells z.cells (grownCap W ys.length 0 el - ys.length)) = ds.toArray ++ Builtin.zeroCells z.cells (grownCap W ys.length 0 el - ys.length) := by simp
   rw [he] at k1 k2 k3
   exact ⟨_, _, g', hr, k1, rfl, k2, k3⟩
  ·injection hv1 with hA hx0 hc0
   subst hA; subst hc0; subst hx0
   have hxcell : ∀ (j : Nat) u, cs[j]? = some u → g.fix g1 j ∧ W.cell? ⟨g1, j, none⟩ = some u := fun j u hj => by
    by_cases hxe : xs = []
    ·subst hxe
     have : cs = [] := List.eq_nil_of_length_eq_zero (by rw [hcs.1]; simp)
     subst this; simp at hj
    ·obtain ⟨ad1, hA1, hs1, hc1⟩ := hcc hxe
     injection hA1 with hA1
     subst hA1
     have := hc1 j u hj
     simpa using this
   by_cases hroom : xs.length + ys.length ≤ cx
   ·have hfit : xs.length * i.size + ds.length ≤ cur.size := by rw [hdl, h5, hsz, ← Nat.add_mul]; exact Nat.mul_le_mul_right _ hroom
    have hr := run_append_room (P := P) W t ty el i hu hi g1 xs.length cx cur h2 ad ys.length cy ds hdl hnews hds.oneCell hroom hfit
    rw [hsz] at hr
    generalize hnc : (cur.toList.take (xs.length * r.sz) ++ ds ++ cur.toList.drop (xs.length * r.sz + ds.length)).toArray = nc at hr
    have hcut : cur.toList.take (xs.length * r.sz) = cs := by
     apply List.ext_getElem?
     intro j
     rw [List.getElem?_take]
     by_cases hj : j < xs.length * r.sz
     ·rw [if_pos hj]
      have hjc : j < cs.length := by rw [hcs.1]; exact hj
      have := (hxcell j _ (List.getElem?_eq_getElem hjc)).2
      rw [cell_of_heap h2] at this
      rw [List.getElem?_eq_getElem hjc, ← this]
      simp
     ·rw [if_neg hj, List.getElem?_eq_none (by rw [hcs.1]; omega)]
    have hheap := setRow_heap W g1 cur nc el (0, 0) h2
    have hoth : ∀ k, k ≠ g1 → (W.setRow g1 nc).heap[k]? = W.heap[k]? := fun k hk => setRow_other W g1 k nc hk
    let g' : Gh := { g with fix := fun b o => g.fix b o ∨ (b = g1 ∧ o < (xs.length + ys.length) * r.sz), own := fun b => if b = g1 then some q' else g.own b }
    have hncell : ∀ (j : Nat) u, (cs ++ ds)[j]? = some u → (W.setRow g1 nc).cell? ⟨g1, j, none⟩ = some u := fun j u hj => by
     rw [cell_of_heap hheap, ← hnc, hcut]
     have hjl := (List.getElem?_eq_some_iff.1 hj).1
     simp only [List.getElem?_toArray]
     rw [List.getElem?_append_left hjl]
     exact hj
    have hmv : Move (fun x => x = q) W (W.setRow g1 nc) g g' := by
     refine ⟨fun b o hfx => ⟨.inl hfx, fun u hu => ?_⟩, fun b p hp hne => ?_⟩
     ·by_cases hbg : b = g1
      ·subst hbg
       have hlt := h7 o hfx
       have hjc : o < cs.length := by rw [hcs.1]; exact hlt
       have h8 := (hxcell o _ (List.getElem?_eq_getElem hjc)).2
       rw [h8] at hu
       exact hncell o u (by rw [List.getElem?_append_left hjc, List.getElem?_eq_getElem hjc]; exact hu)
      ·rw [World.cell?_of_block (w := W) (hoth b hbg)]; exact hu
     ·have hbg : ¬ b = g1 := fun heq => by subst heq; rw [h6] at hp; injection hp with hp; exact hne hp.symm
      refine ⟨by simp [g', hbg, hp], hoth b hbg, fun o ho => ?_⟩
      rcases ho with ho | ⟨ho, _⟩
      ·exact ho
      ·exact absurd ho hbg
    have hsizeEq : (W.setRow g1 nc).heap.size = W.heap.size := by simp [World.setRow]
    have h' : St w0 T f0 n e a (W.setRow g1 nc) g' := by
     refine h.move hmv (fun x hx => by rw [hx]; exact hf (by simp)) (fun _ _ => rfl) rfl rfl rfl (by omega) (fun b hb ht => hoth b (fun heq => ?_)) (fun b p hp => ?_) (fun b o hfx => ?_) (fun b o hb ht hfx => ?_)
     ·subst heq; exact ht ((h.ownNew _ _ h6).2 hb)
     ·simp only [g'] at hp
      split at hp
      ·rename_i heq; subst heq
       have := h.ownNew _ _ h6
       exact ⟨by omega, this.2⟩
      ·have := h.ownNew b p hp
       exact ⟨by omega, this.2⟩
     ·rcases hfx with hfx | ⟨hfx, _⟩
      ·have := h.fixLt b o hfx; omega
      ·subst hfx; have := (h.ownNew _ _ h6).1; omega
     ·rcases hfx with hfx | ⟨hfx, _⟩
      ·exact hfx
      ·subst hfx; exact absurd ((h.ownNew _ _ h6).2 hb) ht
    have hrows := (hcs.append hds).mono hmv.fixed
    refine ⟨_, _, g', hr, h', rfl, ?_, .inr ⟨g1, xs.length + ys.length, cx, nc, rfl, hheap, hroom, h4, ?_, by simp [g'], fun o ho => ?_⟩⟩
    ·have := Rep.of_rows (e := el) hrows (b := g1) (off := 0) (c := cx) ⟨by simpa using hroom, by simp only [List.length_append, lenMax]; omega⟩ (fun j u hj => ?_)
     ·simpa using this
     ·have hlt : j < (cs ++ ds).length := (List.getElem?_eq_some_iff.1 hj).1
      rw [hrows.1, List.length_append] at hlt
      exact ⟨.inr ⟨rfl, by omega⟩, by rw [Nat.zero_add]; exact hncell j u hj⟩
    ·rw [← hnc]
     simp only [List.size_toArray, List.length_append, List.length_take, List.length_drop, Array.length_toList]
     rw [hsz] at hfit
     omega
    ·rcases ho with ho | ⟨_, ho⟩
     ·have := h7 o ho
      have h9 : xs.length * r.sz ≤ (xs.length + ys.length) * r.sz := Nat.mul_le_mul_right _ (by omega)
      omega
     ·exact ho
   ·have hr := run_append_grow (P := P) W t ty el i z hu hi hzz ⟨g1, 0, none⟩ xs.length cx cs (by rw [hcs.1, hsz]) (fun j u hj => by rw [Addr.add_lit, Nat.zero_add]; exact (hxcell j u hj).2) ad ys.length cy ds hdl hnews (by omega) (by omega) (growslice_fits (by omega) hbytes)
    have hge := grownCap_ge W (xs.length + ys.length) cx el
    have hle := grownCap_le_maxLen W (xs.length + ys.length) cx el (by simp only [maxLen]; omega)
    obtain ⟨g', k1, k2, k3⟩ := fresh cs (Builtin.zeroCells z.cells (grownCap W (xs.length + ys.length) cx el - (xs.length + ys.length))) (grownCap W (xs.length + ys.length) cx el) hcs hge hle (by
     simp only [Array.size_append, List.size_toArray, size_zeroCells, hzs, hds.1, hcs.1, ← Nat.add_mul]
     congr 1; omega)
    exact ⟨_, _, g', hr, k1, rfl, k2, k3⟩
end
end Go.PM
