/- PM: maps from integers to nothing, sound: made, asked, written, ranged over in whatever order. -/
import Derived.Test.YtibkgmpfncacpaaPMStep
import Derived.Maps.RangeWalk
import Derived.Maps.OwnSet
namespace Go.PM
open Go
section
variable {P : Program} {k : TypeId} {es : Array MapEntry} {clock : Nat}
abbrev UE := unitElem (H := Unit)
theorem keyOk_wf {a : Int} (h : keyOk a = true) : (Lit.int .i64 a).wf = true := by
 simp only [keyOk, Bool.and_eq_true, decide_eq_true_eq] at h
 have h1 : IntKind.i64.min = -9223372036854775808 := by decide
 have h2 : IntKind.i64.max = 9223372036854775807 := by decide
 simp only [Lit.wf, Bool.and_eq_true, decide_eq_true_eq]
 rw [h1, h2]
 exact h
theorem fit_in (hk : P.underlying k = some (.int .i64)) (h : SetFit es clock) : WideElems.Fit P k UE es clock := by
 refine ⟨h.size, h.stamped, fun x hx => ?_⟩
 obtain ⟨a, h1, h2, h3⟩ := h.keys x hx
 refine ⟨(.int .i64 a, .agg []), ?_⟩
 have : x = ⟨x.key, x.val, x.born⟩ := rfl
 rw [this, h1, h3]
 exact WideElems.rd_mk (yv := (.agg [], [])) (Maps.keyOf_int_mk hk h2) unitElem_mk
theorem fit_out (hk : P.underlying k = some (.int .i64)) (F : WideElems.Fit P k UE es clock) : SetFit es clock := by
 refine ⟨F.size, F.stamped, fun x hx => ?_⟩
 obtain ⟨y, hy⟩ := F.reads x hx
 obtain ⟨a, h1, h2, h3⟩ := Maps.keyOf_int_inv hk (WideElems.rd_key hy)
 obtain ⟨z, hz, -⟩ := WideElems.rd_val hy
 exact ⟨a, h1, h3, (unitElem_inv hz).1⟩
theorem mem_insert {x p : Lit × DataW Unit} : ∀ {l : List (Lit × DataW Unit)}, p ∈ DataW.insert x l ↔ p = x ∨ p ∈ l
 | [] => by simp [DataW.insert]
 | y :: l => by
  unfold DataW.insert
  split
  ·simp
  ·simp only [List.mem_cons, mem_insert (l := l)]
   constructor
   ·rintro (h | h | h)
    ·exact .inr (.inl h)
    ·exact .inl h
    ·exact .inr (.inr h)
   ·rintro (h | h | h)
    ·exact .inr (.inl h)
    ·exact .inl h
    ·exact .inr (.inr h)
theorem key_mem (hk : P.underlying k = some (.int .i64)) (F : WideElems.Fit P k UE es clock) (a : Int) : HasKey es a ↔ ∃ d, (Lit.int .i64 a, d) ∈ (es.toList.map (WideElems.rg P k UE)).foldr DataW.insert [] := by
 constructor
 ·rintro ⟨x, hx, hxa⟩
  obtain ⟨y, hy⟩ := F.reads x hx
  obtain ⟨a', h1, h2, h3⟩ := Maps.keyOf_int_inv hk (WideElems.rd_key hy)
  rw [hxa] at h1
  injection h1 with _ h1
  subst h1
  refine ⟨y.2, mem_sorted.2 (List.mem_map.2 ⟨x, hx, ?_⟩)⟩
  rw [WideElems.rg_of hy, ← h2]
 ·rintro ⟨d, hd⟩
  obtain ⟨x, hx, hxd⟩ := List.mem_map.1 (mem_sorted.1 hd)
  obtain ⟨y, hy⟩ := F.reads x hx
  obtain ⟨a', h1, h2, h3⟩ := Maps.keyOf_int_inv hk (WideElems.rd_key hy)
  rw [WideElems.rg_of hy] at hxd
  rw [hxd] at h2
  injection h2 with _ h2
  subst h2
  exact ⟨x, hx, h1⟩
theorem memI_iff {a : Int} : ∀ {l : List Int}, memI a l = true ↔ a ∈ l
 | [] => by simp [memI]
 | b :: l => by simp [memI, memI_iff (l := l)]
theorem dedupI_mem {a : Int} : ∀ {l : List Int}, a ∈ dedupI l ↔ a ∈ l
 | [] => Iff.rfl
 | b :: l => by
  have ih := dedupI_mem (a := a) (l := l)
  simp only [dedupI]
  cases h : memI b (dedupI l) <;> simp only [cond_true, cond_false, List.mem_cons, ih]
  constructor
  ·exact .inr
  ·rintro (h' | h')
   ·subst h'; exact ih.1 (memI_iff.1 h)
   ·exact h'
theorem dedupI_nodup : ∀ (l : List Int), (dedupI l).Nodup
 | [] => List.nodup_nil
 | b :: l => by
  simp only [dedupI]
  cases h : memI b (dedupI l) <;> simp only [cond_true, cond_false]
  ·exact List.nodup_cons.2 ⟨fun hh => (by rw [memI_iff.2 hh] at h; cases h), dedupI_nodup l⟩
  ·exact dedupI_nodup l
end
section
variable {P : Program} {G : Ctx} {w0 : World} {T : Nat → Prop} {f0 : F0} {n : Nat} {e e' : Env} {a : Act} {W : World} {g : Gh} {o : Oper} {K : Act → World → Prop} {Q : Exit → Act → World → Prop}
theorem getKey_sound (h : St w0 T f0 n e a W g) {x : Operand} {k : Int → Prog} (hr : (getKey x k).run e some = some e') : ∃ i, (k i).run e some = some e' ∧ a.eval x = .int .i64 i ∧ (Lit.int .i64 i).wf = true := by
 obtain ⟨pv, hr1, hd, -⟩ := getV_sound h hr
 split at hr1
 ·rename_i i tp
  obtain ⟨hk, hr2⟩ := chk_run hr1
  exact ⟨i, hr2, int_of_dat hd, keyOk_wf hk⟩
 ·simp [Prog.run] at hr1
theorem getSet_sound (h : St w0 T f0 n e a W g) {x : Operand} {k : Nat → List Int → Nat → Prog} (hr : (getSet G x k).run e some = some e') :
  ∃ j ks ver, (k j ks ver).run e some = some e' ∧ a.eval x = .map (some (g.bx j).b) ∧ e (.box j) = .set ks true ver ∧ SetAt g.own W (.box j) (g.bx j).b ks := by
 obtain ⟨pv, hr1, hd, -⟩ := getV_sound h hr
 split at hr1
 ·rename_i j
  simp only [Prog.run] at hr1
  split at hr1
  ·rename_i ks ver hb
   obtain ⟨-, hr2⟩ := chk_run hr1
   have hbr := h.boxes j
   rw [hb] at hbr
   exact ⟨j, ks, ver, hr2, hd, hb, hbr⟩
  ·simp [Prog.run] at hr1
 ·simp [Prog.run] at hr1
theorem St.remap (h : St w0 T f0 n e a W g) {i B : Nat} (hr : (e (.box i)).isRow = false) {W' : World} (os : W'.os = W.os) (tape : W'.tape = W.tape) (output : W'.output = W.output) (size : W'.heap.size = W.heap.size) (hB : g.own B = some (.box i))
  (hsame : ∀ b, b ≠ B → W'.heap[b]? = W.heap[b]?) (hcell : ∀ o u, W.cell? ⟨B, o, none⟩ ≠ some u) : St w0 T f0 n (e.set (.box i) (.lent 0 0)) a W' g := by
 have h1 : St w0 T f0 n (e.set (.box i) (.lent 0 0)) a W g := h.setBox (pv := .lent 0 0) trivial (fun _ => rfl) hr (.out (fun _ => rfl) rfl)
 refine h1.move (X := fun q => q = .box i) ⟨fun b o hf => ⟨hf, fun u hu => ?_⟩, fun b q hq hne => ⟨hq, hsame b (fun he => ?_), fun _ h => h⟩⟩ (fun q hq => by rw [hq]; exact free_box (fun _ _ _ hh => by cases hh) rfl) (fun _ _ => rfl) os tape output (by omega) (fun b hb ht => hsame b (fun he => ?_)) (fun b q hq => ?_) (fun b o hf => ?_) (fun _ _ _ _ h => h)
 ·by_cases ho : b = B
  ·subst ho; exact absurd hu (hcell o u)
  ·rw [World.cell?_of_block (w := W) (hsame b ho)]; exact hu
 ·subst he; rw [hB] at hq; injection hq with hq; exact hne hq.symm
 ·subst he; exact ht ((h.ownNew _ _ hB).2 hb)
 ·have := h.ownNew b q hq; exact ⟨by omega, this.2⟩
 ·have := h.fixLt b o hf; omega
theorem set_set {e : Env} {p : Place} {v w : PV} : (e.set p v).set p w = e.set p w := by
 funext q; simp only [Env.set]; split <;> rfl
theorem St.newObj (h : St w0 T f0 n e a W g) {d : Nat} (hdn : d < n) (hu : (e (.box d)).isBox = false) (o : Obj) :
  ∃ g', (g'.bx d).b = W.heap.size ∧ g'.fix = g.fix ∧ g'.own W.heap.size = some (.box d) ∧ (∀ b q, g.own b = some q → g'.own b = some q) ∧ St w0 T f0 n e a (W.alloc o) g' ∧ (W.alloc o).heap[W.heap.size]? = some o ∧ (∀ b, b < W.heap.size → (W.alloc o).heap[b]? = W.heap[b]?) ∧ ∀ i, i ≠ d → g'.bx i = g.bx i := by
 let g' : Gh := { g with own := fun b => if b = W.heap.size then some (.box d) else g.own b, bx := fun i => if i = d then ⟨W.heap.size, undef, fun _ => undef⟩ else g.bx i }
 have hold : ∀ k, k < W.heap.size → (W.alloc o).heap[k]? = W.heap[k]? := fun k hk => (MapKept.heap_alloc W o).2 k hk
 have hkeep : ∀ b q, g.own b = some q → g'.own b = some q := fun b q hb => by
  have := (h.ownNew b q hb).1
  have : ¬ b = W.heap.size := by omega
  simp [g', this, hb]
 refine ⟨g', by simp [g'], rfl, by simp [g'], hkeep, ?_, (MapKept.heap_alloc W o).1, hold, fun i hi => by simp [g', hi]⟩
 refine h.move (X := fun _ => False) ⟨fun b o' hf => ⟨hf, fun u hu' => ?_⟩, fun b q hb _ => ⟨hkeep b q hb, hold b (h.ownNew b q hb).1, fun _ h => h⟩⟩ (fun _ hx => hx.elim) (fun i hi => ?_) rfl rfl rfl (by simp) (fun b hb _ => hold b (Nat.lt_of_lt_of_le hb h.size)) (fun b q hb => ?_) (fun b o' hf => ?_) (fun b o' _ _ hf => hf)
 ·rw [World.cell?_of_block (w := W) (hold b (h.fixLt b o' hf))]; exact hu'
 ·have : ¬ i = d := fun he => by
   subst he
   rcases hi with hi | hi
   ·rw [hu] at hi; cases hi
   ·have := h.nle; omega
  simp [g', this]
 ·simp only [g'] at hb
  split at hb
  ·rename_i heq; subst heq
   exact ⟨by simp, fun hlt => by have := h.size; omega⟩
  ·have := h.ownNew b q hb
   exact ⟨by simp; omega, this.2⟩
 ·have := h.fixLt b o' hf; simp; omega
theorem put_ptr {d : Nat} {pv qv : PV} (h : qv.cellAt = some d) (hc : pv.isCell = true) {g : Gh} {v : Value} : PtrOk (e.set (.box d) pv) g qv v := by
 cases qv <;> simp [PV.cellAt] at h <;> subst h <;> simp [PtrOk, Env.set, hc]
theorem sound_makeMap {t : TypeId} (ho : o.op = .makeMap t none) (h : St w0 T f0 G.n e a W g) (hd : dstOk G.n o.dst = true) {d : Nat} (hdst : o.dst = some d)
  (hr : (Prog.chk (G.sets.contains t) <| .get (.box d) fun b => match b with
   | .unk => .set (.box d) (.set [] true 0) (put o.dst (.mptr d) .done)
   | _ => .fail).run e some = some e') (hK : ∀ a' W' g', St w0 T f0 G.n e' a' W' g' → K a' W') : o.wp P a W K Q := by
 obtain ⟨-, hr1⟩ := chk_run hr
 simp only [Prog.run] at hr1
 split at hr1
 ·rename_i hb
  simp only [Prog.run] at hr1
  obtain ⟨g', k1, k2, k3, k4, k5, k6, k7, -⟩ := h.newObj (dst_lt hd d hdst) (by rw [hb]; rfl) (.map #[] 0)
  have h2 := k5.setBox (i := d) (pv := .set [] true 0) (by
   refine ⟨#[], 0, by rw [k1]; exact k6, by rw [k1]; exact k3, ⟨by simp, ⟨by simp, by simp, by simp⟩, by simp⟩, fun a => ?_, by simp⟩
   simp [HasKey]) (fun _ => rfl) (by rw [hb]; rfl) (.out (fun _ => rfl) rfl)
  rw [put_run hr1] at hK
  refine wp_value (v := .map (some W.heap.size)) (W' := W.alloc (.map #[] 0)) (by simp [execOp, ho]; rfl) (hK _ _ _ (h2.putDst hd (pv := .mptr d) (fun _ _ => ?_) (put_ptr rfl rfl)))
  show _ = _
  rw [k1]
 ·simp [Prog.run] at hr1
theorem sound_putKey {t : TypeId} {m x v : Operand} (hG : CtxOk P G) (ho : o.op = .mapUpdate t m x v ∨ o.op = .insert t m x v) (h : St w0 T f0 G.n e a W g) (hr : (putKeyP G o.dst t m x v).run e some = some e')
  (hK : ∀ a' W' g', St w0 T f0 G.n e' a' W' g' → K a' W') : o.wp P a W K Q := by
 unfold putKeyP at hr
 obtain ⟨hc, hr1⟩ := chk_run hr
 simp only [Bool.and_eq_true] at hc
 have hdst : o.dst = none := by cases hh : o.dst with
  | none => rfl
  | some d => rw [hh] at hc; simp at hc
 obtain ⟨k, el, inf, hu, hk, hi, hz⟩ := hG.sets t (by simpa using hc.1)
 obtain ⟨j, ks, ver, hr2, hm, hb, es, clock, s1, s2, s3, s4, s5⟩ := getSet_sound h hr1
 obtain ⟨i, hr3, hx, hw⟩ := getKey_sound h hr2
 obtain ⟨u, hr4, hv⟩ := getD_sound h hr3
 obtain ⟨hl, hr5⟩ := chk_run hr4
 have hl : ks.length < 549755813888 := of_decide_eq_true hl
 simp only [Prog.run, Option.some.injEq] at hr5
 have hval : a.eval v = .agg #[] := by
  obtain ⟨k1, k2⟩ := hv
  generalize a.eval v = q at k1 k2
  cases q <;> simp [Value.isAgg, Ty.isAgg] at k1
  rename_i cs
  have : cs.toList = [] := k2
  rw [← Array.toArray_toList (xs := cs), this]
 obtain ⟨es', clock', hrun, F', hput, -, -, hwho⟩ := Maps.fit_store (R' := UE) (Maps.int_keyed hk) hu s1 (fit_in hk s3) (by simp only [maxLen]; omega) (fun _ _ _ _ hz => hz) (Maps.keyOf_int_mk hk hw) (unitElem_mk (H := Unit))
 have hkeys : ∀ a', HasKey es' a' ↔ a' ∈ ks ++ [i] := fun a' => by
  rw [key_mem hk F' a', hput, List.mem_append, ← s4 a', key_mem hk (fit_in hk s3) a']
  unfold ChangeMaps.putKey
  simp only [mem_insert, List.mem_singleton]
  constructor
  ·rintro ⟨d, hd | hd⟩
   ·injection hd with hd; injection hd with _ hd; exact .inr hd
   ·exact .inl ⟨d, (List.mem_filter.1 hd).1⟩
  ·rintro (⟨d, hd⟩ | hd)
   ·by_cases ha : a' = i
    ·exact ⟨_, .inl (by rw [ha])⟩
    ·refine ⟨d, .inr (List.mem_filter.2 ⟨hd, ?_⟩)⟩
     simp only [ChangeMaps.notKey, Bool.not_eq_true']
     cases hs : (Lit.int .i64 a').sameKey (Lit.int .i64 i) with
     | false => rfl
     | true =>
      have := WideAt.sameKey_eq hs
      injection this with _ this
      exact absurd this ha
   ·exact ⟨_, .inl (by rw [hd])⟩
 have hsz : es'.size ≤ (ks ++ [i]).length := by
  have e1 : es'.size = ((es'.toList.map (WideElems.rg P k UE)).foldr DataW.insert []).length := by rw [length_sorted]; simp
  rw [e1, hput]
  unfold ChangeMaps.putKey
  rw [length_insert]
  have e2 := List.length_filter_le (ChangeMaps.notKey (.int .i64 i)) ((es.toList.map (WideElems.rg P k UE)).foldr DataW.insert [])
  rw [length_sorted] at e2
  simp at e2
  simp only [List.length_append, List.length_singleton]
  omega
 have h1 := h.remap (i := j) (B := (g.bx j).b) (by rw [hb]; rfl) (W' := ChangeMaps.setBlock W (g.bx j).b (.map es' clock')) rfl rfl rfl (by simp [ChangeMaps.setBlock]) s2 (fun b hb => ChangeMaps.heap_setBlock_other s1 _ hb) (fun o u hh => by simp [World.cell?, s1] at hh)
 have h2 := h1.setBox (i := j) (pv := .set (ks ++ [i]) true (ver + 1)) ⟨es', clock', ChangeMaps.heap_setBlock_same s1 _, s2, fit_out hk F', hkeys, hsz⟩ (fun _ => rfl) (by simp [Env.set, PV.isRow]) (.out (fun _ => rfl) rfl)
 rw [set_set] at h2
 rw [← hr5] at hK
 refine wp_skip' (W' := ChangeMaps.setBlock W (g.bx j).b (.map es' clock')) ?_ ?_
 ·rcases ho with ho | ho <;> simp [execOp, ho, hm, hx, hval, hrun]
 ·rw [hdst]; exact hK _ _ _ h2
theorem sound_lookupSet {t : TypeId} {m x : Operand} (hG : CtxOk P G) (ho : o.op = .lookup t m x true) (h : St w0 T f0 G.n e a W g) (hd : dstOk G.n o.dst = true)
  (hr : (Prog.chk (G.sets.contains t) <| getSet G m fun _ ks _ => getKey x fun a => put o.dst (.tup [(true, []), (false, [⟨.bool, memI a ks, false⟩])]) .done).run e some = some e')
  (hK : ∀ a' W' g', St w0 T f0 G.n e' a' W' g' → K a' W') : o.wp P a W K Q := by
 obtain ⟨hc, hr1⟩ := chk_run hr
 obtain ⟨k, el, inf, hu, hk, hi, hz⟩ := hG.sets t (by simpa using hc)
 obtain ⟨j, ks, ver, hr2, hm, hb, es, clock, s1, s2, s3, s4, s5⟩ := getSet_sound h hr1
 obtain ⟨i, hr3, hx, hw⟩ := getKey_sound h hr2
 have hzz : (zeroValue el).run P W = .ok (.agg #[]) W := by simp [zeroValue, typeInfo, hi, hz]
 have hrun : (Instr.lookup t (.map (some (g.bx j).b)) (.int .i64 i) true).run P W = .ok (.tuple #[.agg #[], .bool (memI i ks)]) W := by
  rcases Maps.fit_look true (Maps.int_keyed hk) hu hzz s1 (fit_in hk s3) (Maps.keyOf_int_mk hk hw) with ⟨h1, h2, -⟩ | ⟨e0, y, h1, h2, h3, h4, -⟩
  ·have : memI i ks = false := by
    cases hh : memI i ks with
    | false => rfl
    | true => obtain ⟨x, hx, hxk⟩ := (s4 i).2 (memI_iff.1 hh); exact absurd hxk (h2 x hx)
   rw [this]; exact h1
  ·have : memI i ks = true := memI_iff.2 ((s4 i).1 ⟨e0, h1, h2⟩)
   rw [this, h3, (unitElem_inv h4).1]; rfl
 refine value_put h hd hr3 rfl rfl (v := .tuple #[.agg #[], .bool (memI i ks)]) ⟨_, rfl, rfl, fun jj p hp => ?_⟩ (by simp [execOp, ho, hm, hx, hrun]) hK
 match jj, hp with
 | 0, hp => simp at hp; subst hp; exact ⟨.agg #[], rfl, rfl, trivial⟩
 | 1, hp => simp at hp; subst hp; exact ⟨_, rfl, rfl, ⟨rfl, trivial⟩⟩
 | jj + 2, hp => simp at hp
theorem sound_rangeSet {t : TypeId} {m : Operand} (hG : CtxOk P G) (ho : o.op = .range t m) (h : St w0 T f0 G.n e a W g) (hd : dstOk G.n o.dst = true) {d : Nat} (hdst : o.dst = some d)
  (hr : (Prog.chk (G.sets.contains t) <| getSet G m fun j ks ver => .get (.box d) fun b => match b with
   | .unk => .set (.box j) (.set ks false (ver + 1)) <| .set (.box d) (.iter (dedupI ks) none 0) (put o.dst (.itr d) .done)
   | _ => .fail).run e some = some e') (hK : ∀ a' W' g', St w0 T f0 G.n e' a' W' g' → K a' W') : o.wp P a W K Q := by
 obtain ⟨hc, hr1⟩ := chk_run hr
 obtain ⟨k, el, inf, hu, hk, hi, hz⟩ := hG.sets t (by simpa using hc)
 obtain ⟨j, ks, ver, hr2, hm, hb, es, clock, s1, s2, s3, s4, s5⟩ := getSet_sound h hr1
 simp only [Prog.run] at hr2
 split at hr2
 ·rename_i hbd
  simp only [Prog.run] at hr2
  have hjd : ¬ j = d := fun he => by subst he; rw [hb] at hbd; cases hbd
  -- the map's place is left; its block is the iterator's
  have h1 : St w0 T f0 G.n (e.set (.box j) (.set ks false (ver + 1))) a W g := h.setBox (pv := .set ks false (ver + 1)) trivial (fun _ => rfl) (by rw [hb]; rfl) (.out (fun _ => rfl) rfl)
  have h2 := h1.relabel (q' := .box d) (free_box (fun _ _ _ hh => by cases hh) rfl) s2
  obtain ⟨g', k1, k2, k3, k4, k5, k6, k7, -⟩ := h2.newObj (d := d) (dst_lt hd d hdst) (by simp [Env.set, Ne.symm hjd, hbd, PV.isBox]) (.mapIter (some (g.bx j).b) clock #[] clock)
  have hlt : (g.bx j).b < W.heap.size := (Array.getElem?_eq_some_iff.1 s1).1
  have h3 := k5.setBox (i := d) (pv := .iter (dedupI ks) none 0) (by
   refine ⟨(g.bx j).b, es, clock, clock, #[], clock, (k7 _ hlt).trans s1, k4 _ _ (by simp), s3, by rw [k1]; exact k6, by rw [k1]; exact k3, s3.stamped.1, Nat.le_refl _, Nat.le_refl _, fun a => ?_, dedupI_nodup ks, fun a ha => by cases ha⟩
   rw [dedupI_mem, ← s4 a]
   simp [HasKey]) (fun _ => rfl) (by simp [Env.set, Ne.symm hjd, hbd, PV.isRow]) (.out (fun _ => rfl) rfl)
  rw [put_run hr2] at hK
  refine wp_value (v := .pointer (some ⟨W.heap.size, 0, none⟩)) (W' := W.alloc (.mapIter (some (g.bx j).b) clock #[] clock)) (by simp [execOp, ho, hm, run_range_map W t k el _ es clock hu s1]) (hK _ _ _ (h3.putDst hd (pv := .itr d) (fun _ _ => ?_) (put_ptr rfl rfl)))
  show _ = _
  rw [k1]
 ·simp [Prog.run] at hr2
theorem sound_entrySet {x : Operand} (ho : o.op = .entry x) (h : St w0 T f0 G.n e a W g) (hd : dstOk G.n o.dst = true)
  (hr : (getV x fun v => match v with
  | .itr j => .get (.box j) fun b => match b with
   | .iter _ (some a) _ => put o.dst (.tup [(false, [⟨.int .i64, a, false⟩]), (true, [])]) .done
   | _ => .fail
  | _ => .fail).run e some = some e') (hK : ∀ a' W' g', St w0 T f0 G.n e' a' W' g' → K a' W') : o.wp P a W K Q := by
 obtain ⟨pv, hr1, hdat, -⟩ := getV_sound h hr
 split at hr1
 ·rename_i j
  simp only [Prog.run] at hr1
  split at hr1
  ·rename_i left c ver hb
   have hbr := h.boxes j
   rw [hb] at hbr
   obtain ⟨b, es, clock, since, seen, c0, q1, q2, q3, q4, q5, q6, q7, q8, q9, q10, q11⟩ := hbr
   obtain ⟨x, hx, hxk, seen', hs, hcc⟩ := q11 c rfl
   obtain ⟨c', hc', -, hcv⟩ := q3.keys x hx
   have hv : a.eval _ = .pointer (some ⟨(g.bx j).b, 0, none⟩) := hdat
   subst hs; subst hcc
   have hrun := run_entry_at (P := P) W (g.bx j).b b since seen' es c0 x q4 q1 hx q3.stamped.2.1
   refine value_put h hd hr1 rfl rfl (v := .tuple #[x.key, x.val]) ⟨_, rfl, rfl, fun jj p hp => ?_⟩ (by simp [execOp, ho, hv, hrun]) hK
   match jj, hp with
   | 0, hp => simp at hp; subst hp; exact ⟨_, rfl, by rw [hxk]; rfl, by rw [hxk]; exact ⟨rfl, trivial⟩⟩
   | 1, hp => simp at hp; subst hp; exact ⟨_, rfl, by rw [hcv]; rfl, by rw [hcv]; trivial⟩
   | jj + 2, hp => simp at hp
  ·simp [Prog.run] at hr1
 ·simp [Prog.run] at hr1
theorem allSame_mem {R : Type} {l : List Int} {f : Int → Option R} {r : R} (h : allSame l f = some r) (x : Int) (hx : x ∈ l) : f x = some r := by
 unfold allSame at h
 split at h
 ·rename_i hh
  injection h with h
  rw [hh.choose_spec x hx, h]
 ·cases h
theorem nextOf_nil {R : Type} {a : Option R} {f : Int → Option R} : nextOf [] a f = a := rfl
theorem nextOf_mem {R : Type} {l : List Int} {a : Option R} {f : Int → Option R} {r : R} (h : nextOf l a f = some r) (x : Int) (hx : x ∈ l) : f x = some r := by
 cases l with
 | nil => simp at hx
 | cons y l => exact allSame_mem h x hx
theorem next_sound {R : Type} (h : St w0 T f0 G.n e a W g) (hd : dstOk G.n o.dst = true) {it : Operand} (ho : o.op = .next it false) {c : Env → Option R} {r : R} (hr : nextP G o.dst it e c = some r)
  (hK : ∀ e' a' W' g', c e' = some r → (∃ t s d left cur ver v left' cur', it = .tmp t ∧ o.dst = some s ∧ e (.box d) = .iter left cur ver ∧ d ∈ G.bxs ∧ e' = (e.set (.box d) (.iter left' cur' (ver + 1))).set (.slot s) v) → St w0 T f0 G.n e' a' W' g' → K a' W') : o.wp P a W K Q := by
 unfold nextP at hr
 split at hr
 ·rename_i t s hdst
  split at hr
  ·rename_i d hit
   split at hr
   ·rename_i left cur ver hb
    cases hbx : G.bxs.contains d <;> simp only [hbx, cond_true, cond_false] at hr
    ·cases hr
    have hv : a.eval (.tmp t) = .pointer (some ⟨(g.bx d).b, 0, none⟩) := by have := h.slots t; rw [hit] at this; exact this
    have hbr := h.boxes d
    rw [hb] at hbr
    obtain ⟨b, es, clock, since, seen, c0, q1, q2, q3, q4, q5, q6, q7, q8, q9, q10, -⟩ := hbr
    have hsd := hdst
    have hslt : s < G.n := dst_lt hd s hdst
    rcases run_next_at (P := P) W o.type (g.bx d).b b since c0 seen es clock q4 q1 q6 q7 with ⟨h0, hrun⟩ | ⟨x, hx, w1, hal, hrun⟩
    ·have hleft : left = [] := by
      cases left with
      | nil => rfl
      | cons z l =>
       obtain ⟨x, hx, hxk, hxs⟩ := (q9 z).1 List.mem_cons_self
       have : x ∈ (leftOf es seen).toList := by simp [leftOf]; exact ⟨by simpa using hx, by simpa using hxs⟩
       have : 0 < (leftOf es seen).toList.length := List.length_pos_of_mem this
       simp at this; omega
     subst hleft
     rw [nextOf_nil] at hr
     have h1 := h.setBox (i := d) (pv := .iter [] none (ver + 1)) ⟨b, es, clock, since, seen, c0, q1, q2, q3, q4, q5, q6, q7, q8, q9, q10, fun a ha => by cases ha⟩ (fun _ => rfl) (by rw [hb]; rfl) (.out (fun _ => rfl) rfl)
     refine wp_value (v := .tuple #[.bool false]) (W' := W) (by simp [execOp, ho, hv, hrun]) (hK _ _ _ g hr ⟨t, s, d, _, cur, ver, _, _, _, rfl, hdst, hb, by simpa using hbx, rfl⟩ ?_)
     rw [hdst]
     exact h1.put hslt (pv := .tup [(false, [⟨.bool, false, false⟩])]) ⟨_, rfl, rfl, fun jj p hp => by
      match jj, hp with
      | 0, hp => simp at hp; subst hp; exact ⟨_, rfl, rfl, ⟨rfl, trivial⟩⟩
      | jj + 1, hp => simp at hp⟩ (not_ptr rfl _)
    ·obtain ⟨hxm, hxs⟩ := mem_left hx
     obtain ⟨z, hz, hzw, hzv⟩ := q3.keys x hxm
     have hzl : z ∈ left := (q9 z).2 ⟨x, hxm, hz, hxs⟩
     have hc := nextOf_mem hr z hzl
     have hw1 : w1.heap = W.heap ∧ w1.os = W.os ∧ w1.tape = W.tape ∧ w1.output = W.output := by rcases hal with rfl | rfl <;> exact ⟨rfl, rfl, rfl, rfl⟩
     have hne : b ≠ (g.bx d).b := fun he => by subst he; rw [q1] at q4; cases q4
     have hr1 : w1.heap[(g.bx d).b]? = some (.mapIter (some b) since seen c0) := by rw [hw1.1]; exact q4
     have hset := MapKept.heap_set (o' := .mapIter (some b) since (seen.push x.born) clock) hr1
     have h1 := h.remap (i := d) (B := (g.bx d).b) (by rw [hb]; rfl) (W' := ChangeMaps.setBlock w1 (g.bx d).b (.mapIter (some b) since (seen.push x.born) clock)) hw1.2.1 hw1.2.2.1 hw1.2.2.2 (by simp [ChangeMaps.setBlock, hw1.1]) q5 (fun b' hb' => (hset.2 b' hb').trans (by rw [hw1.1])) (fun o u hh => by simp [World.cell?, q4] at hh)
     have h2 := h1.setBox (i := d) (pv := .iter (left.erase z) (some z) (ver + 1)) ⟨b, es, clock, since, seen.push x.born, clock, (hset.2 b hne).trans (by rw [hw1.1]; exact q1), q2, q3, hset.1, q5, q6, q8, q8, fun y => ?_, q10.erase z, fun y hy => ?_⟩ (fun _ => rfl) (by simp [Env.set, PV.isRow]) (.out (fun _ => rfl) rfl)
     ·rw [set_set] at h2
      refine wp_value (v := .tuple #[.bool true, x.key, x.val]) (W' := ChangeMaps.setBlock w1 (g.bx d).b (.mapIter (some b) since (seen.push x.born) clock)) (by simp [execOp, ho, hv, hrun]) (hK _ _ _ g hc ⟨t, s, d, _, cur, ver, _, _, _, rfl, hdst, hb, by simpa using hbx, rfl⟩ ?_)
      rw [hdst]
      exact h2.put hslt (pv := .tup [(false, [⟨.bool, true, false⟩]), (false, [⟨.int .i64, z, false⟩]), (true, [])]) ⟨_, rfl, rfl, fun jj p hp => by
       match jj, hp with
       | 0, hp => simp at hp; subst hp; exact ⟨_, rfl, rfl, ⟨rfl, trivial⟩⟩
       | 1, hp => simp at hp; subst hp; exact ⟨_, rfl, by rw [hz]; rfl, by rw [hz]; exact ⟨rfl, trivial⟩⟩
       | 2, hp => simp at hp; subst hp; exact ⟨_, rfl, by rw [hzv]; rfl, by rw [hzv]; trivial⟩
       | jj + 3, hp => simp at hp⟩ (not_ptr rfl _)
     ·rw [q10.mem_erase_iff, q9 y]
      constructor
      ·rintro ⟨hyz, x', hx', hk', hs'⟩
       refine ⟨x', hx', hk', ?_⟩
       have hbn : ¬ x'.born = x.born := fun he => by
        have := born_inj q3.stamped.2.1 hx' hxm he
        subst this
        rw [hz] at hk'
        injection hk' with _ hk'
        exact hyz hk'.symm
       simp only [Array.contains_eq_mem, Array.mem_push, decide_eq_false_iff_not, not_or] at hs' ⊢
       exact ⟨hs', hbn⟩
      ·rintro ⟨x', hx', hk', hs'⟩
       simp only [Array.contains_eq_mem, Array.mem_push, decide_eq_false_iff_not, not_or] at hs' ⊢
       refine ⟨fun hyz => ?_, x', hx', hk', by simpa using hs'.1⟩
       subst hyz
       have hkk : x'.key = x.key := by rw [hk', hz]
       have := entry_eq_of_key ((MapKept.stamped_iff es clock).1 q3.stamped).2.2 hx' hxm hkk
       exact hs'.2 (by rw [this])
     ·injection hy with hy
      subst hy
      exact ⟨x, hxm, hz, seen, rfl, rfl⟩
   ·cases hr
  ·cases hr
 ·cases hr
end
end Go.PM
