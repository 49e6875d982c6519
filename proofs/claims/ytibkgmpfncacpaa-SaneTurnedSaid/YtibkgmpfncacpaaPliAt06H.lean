/- SaneTurned by hand: the whole walk. -/
import Derived.Test.YtibkgmpfncacpaaPliAt06G
namespace Go.Pli
open Go Go.PM Go.Proofs
theorem sane_len {m : Im} (h : r5sane m = 0) {x : Mt} (hx : x ∈ m.2.2.2.1) : 0 < x.2.2.2.1.length ∧ x.2.2.2.1.length ≤ 64 := by
 have h0 : (scheck m == 0) = true := by
  have : scheck m = 0 := h
  rw [this]; rfl
 rw [scheck_zero, Bool.and_eq_true] at h0
 have h1 := h0.2
 simp only [saneB, Bool.and_eq_true] at h1
 have h2 := List.all_eq_true.1 h1.2.2.1 x hx
 simp only [methodB, Bool.and_eq_true, decide_eq_true_eq] at h2
 have h3 := (mth_of ((fit_of h0.1).mts x hx)).2.2.2.1.1
 have := h2.2.2.2.1
 omega
theorem im_parts {fix : Nat → Nat → Prop} {W : World} {m : Im} {cs : List Value} (h : Rep fix W tyTIm m cs) :
  ∃ v1 v2 v3 v4 v5, Rep fix W tyStyTCl m.1 [v1] ∧ Rep fix W tyStyTTp m.2.1 [v2] ∧ Rep fix W tySi32 m.2.2.1 [v3] ∧ Rep fix W tyStyTMt m.2.2.2.1 [v4] ∧ Rep fix W tySi64 m.2.2.2.2.1 [v5] ∧ cs = [v1, v2, v3, v4, v5, .int .i64 m.2.2.2.2.2.1, .int .i64 m.2.2.2.2.2.2.1] := by
 obtain ⟨c1, d1, rfl, p1, c2, d2, rfl, p2, c3, d3, rfl, p3, c4, d4, rfl, p4, c5, d5, rfl, p5, c6, d6, rfl, p6, c7, d7, rfl, p7, p8⟩ := h
 have s1 := p1
 have s2 := p2
 have s3 := p3
 have s4 := p4
 have s5 := p5
 obtain ⟨A1, n1, z1, -⟩ := s1
 obtain ⟨A2, n2, z2, -⟩ := s2
 obtain ⟨A3, n3, z3, -⟩ := s3
 obtain ⟨A4, n4, z4, -⟩ := s4
 obtain ⟨A5, n5, z5, -⟩ := s5
 have p6 : c6 = [.int .i64 m.2.2.2.2.2.1] := p6
 have p7 : c7 = [.int .i64 m.2.2.2.2.2.2.1] := p7
 have p8 : d7 = [] := p8
 subst z1; subst z2; subst z3; subst z4; subst z5; subst p6; subst p7; subst p8
 exact ⟨_, _, _, _, _, p1, p2, p3, p4, p5, rfl⟩
theorem im_make {fix : Nat → Nat → Prop} {W : World} {m : Im} {v1 v2 v3 v4 v5 : Value} (h1 : Rep fix W tyStyTCl m.1 [v1]) (h2 : Rep fix W tyStyTTp m.2.1 [v2]) (h3 : Rep fix W tySi32 m.2.2.1 [v3]) (h4 : Rep fix W tyStyTMt m.2.2.2.1 [v4]) (h5 : Rep fix W tySi64 m.2.2.2.2.1 [v5]) :
  Rep fix W tyTIm m [v1, v2, v3, v4, v5, .int .i64 m.2.2.2.2.2.1, .int .i64 m.2.2.2.2.2.2.1] :=
 ⟨[_], _, rfl, h1, [_], _, rfl, h2, [_], _, rfl, h3, [_], _, rfl, h4, [_], _, rfl, h5, [_], _, rfl, rfl, [_], [], rfl, rfl, rfl⟩
theorem frozen_of_block {w w' : World} {b o : Nat} (h : w'.heap[b]? = w.heap[b]?) : w'.frozen? ⟨b, o, none⟩ = w.frozen? ⟨b, o, none⟩ := by
 unfold World.frozen?
 simp only
 rw [h]
noncomputable section
theorem walk06 {W : World} {a : Act} {Q : Exit → Act → World → Prop} {cs : Array Value} {m : Im} {f pc x y : Int} {S : Nat → Nat → Prop} (hs : a.tmps.size = 84) (hd : a.defers = []) (h0 : a.tmps.getD 0 undef = .agg cs) (h1 : a.tmps.getD 1 undef = .int .u8 f) (h2 : a.tmps.getD 2 undef = .int .u8 pc) (h3 : a.tmps.getD 3 undef = .int .u8 x) (h4 : a.tmps.getD 4 undef = .int .u8 y)
  (hS : ∀ b o, S b o → b < W.heap.size ∧ W.frozen? ⟨b, o, none⟩ = false) (hrep : Rep S W tyTIm m cs.toList) (hf : 0 ≤ f ∧ f < 256) (hpc : 0 ≤ pc ∧ pc < 256)
  (hret : ∀ (a' : Act) (W' : World), a'.defers = [] → a'.tmps.getD 10 undef = .bool true → Elder W W' → Q .ret a' W') : st0.wp Try.prog Q a W := by
 -- the box
 refine segT0 hs hd h0 fun a1 s1 d1 t5 same1 => ?_
 have hbox : (W.alloc (.cells cs 28)).heap[W.heap.size]? = some (.cells cs 28 (0, 0)) := by
  show (W.heap.push (.cells cs 28))[W.heap.size]? = _
  rw [Array.getElem?_push, if_pos rfl]
 have el1 : Elder W (W.alloc (.cells cs 28)) := ⟨rfl, rfl, rfl, by show _ ≤ (W.heap.push _).size; rw [Array.size_push]; omega, fun b hb => by
  show (W.heap.push (.cells cs 28))[b]? = _
  rw [Array.getElem?_push, if_neg (by omega)]⟩
 have sz1 : (W.alloc (.cells cs 28)).heap.size = W.heap.size + 1 := Array.size_push _
 generalize W.alloc (.cells cs 28) = W1 at hbox el1 sz1 ⊢
 have keep : ∀ {V : World}, Elder W V → ∀ b o, S b o → ∀ u, W.cell? ⟨b, o, none⟩ = some u → V.cell? ⟨b, o, none⟩ = some u := fun hV b o hb u hu => by
  rw [World.cell?_of_block (w := W) (hV.old b (hS b o hb).1)]; exact hu
 -- the first looks
 have hL1 : Laid W1 84 a1 (fun b o => S b o ∨ b = W.heap.size) (fun _ => ⟨W.heap.size, undef, fun _ => undef⟩) (eT m f pc x y) := by
  have l0 := Laid.nil (W := W1) (B := fun _ => ⟨W.heap.size, undef, fun _ => undef⟩) d1 s1 (by omega : 84 ≤ 1000000) (fix := fun b o => S b o ∨ b = W.heap.size) (fun b o hb => by
   rcases hb with hb | hb
   ·have := (hS b o hb).1; omega
   ·omega)
  have l1 := l0.box (i := 1000005) (pv := .frz 28 (tyTIm.split m) 0) ⟨cs.toList, Cells.split _ _ _ (Rep.mono (fun b o hb => ⟨.inl hb, keep el1 b o hb⟩) _ _ _ hrep), fun j u hu => ⟨.inr rfl, by
   rw [cell_of_heap hbox]; simpa using hu⟩⟩ rfl (fun _ => rfl)
  have l2 := l1.int (t := 1) (k := .u8) (x := f) (by rw [same1 1 (by decide) (by decide)]; exact h1)
  have l3 := l2.int (t := 2) (k := .u8) (x := pc) (by rw [same1 2 (by decide) (by decide)]; exact h2)
  have l4 := l3.int (t := 3) (k := .u8) (x := x) (by rw [same1 3 (by decide) (by decide)]; exact h3)
  have l5 := l4.int (t := 4) (k := .u8) (x := y) (by rw [same1 4 (by decide) (by decide)]; exact h4)
  exact l5.ptr (t := 5) (j := 1000005) rfl t5
 refine segT1 hL1 (fun a' W' q1 q2 q3 => hret a' W' q1 q2 (el1.trans q3)) fun c1 c2 c3 a2 W2 s2 d2 n1 n2 n3 n4 n5 el2 => ?_
 -- the parts of the image
 obtain ⟨w1, w2, w3, w4, w5, p1, p2, p3, p4, p5, hcs⟩ := im_parts hrep
 have p4' := p4
 obtain ⟨A, c, e4, k2, k3⟩ := p4
 obtain ⟨ad, rfl, hspot, hel⟩ := k3 c3
 obtain ⟨b0, off, sp⟩ := ad
 have hspot : sp = none := hspot
 subst hspot
 injection e4 with e4 _
 subst e4
 have hn0 : 0 < m.2.2.2.1.length := List.length_pos_iff.2 c3
 obtain ⟨q, hq, hqn⟩ := tmod_at hf hn0
 obtain ⟨ci, hmt, hci⟩ := hel q _ (List.getElem?_eq_getElem hqn)
 have hmem : m.2.2.2.1[q] ∈ m.2.2.2.1 := List.getElem_mem hqn
 have hget : m.2.2.2.1[q]? = some m.2.2.2.1[q] := List.getElem?_eq_getElem hqn
 obtain ⟨len0, len1⟩ := sane_len c2 hmem
 generalize m.2.2.2.1[q] = mt at hmt hmem len0 len1 hget
 obtain ⟨u1, u2, u3, u4, r1, r2, r3, r4, hparts⟩ := mt_parts hmt
 have r3' := r3
 obtain ⟨A3, cap3, eu3, -⟩ := r3'
 injection eu3 with eu3 _
 have hsz : (tyTMt).sz = 8 := rfl
 have h8 : ∀ j u, ci[j]? = some u → S b0 (off + q * 8 + j) ∧ W.cell? ⟨b0, off + q * 8 + j, none⟩ = some u := fun j u hu => hci j u hu
 have c4 := h8 4 u3 (by rw [hparts]; rfl)
 have c3' := h8 3 _ (by rw [hparts]; rfl)
 have c5 := h8 5 _ (by rw [hparts]; rfl)
 have hb0 := (hS _ _ c4.1).1
 have el12 := el1.trans el2
 have hbox2 : W2.heap[W.heap.size]? = some (.cells cs 28 (0, 0)) := (el2.old _ (by omega)).trans hbox
 have hcell3 : W2.cell? ⟨W.heap.size, 3, none⟩ = some (.slice (some ⟨b0, off, none⟩) m.2.2.2.1.length c) := by
  rw [cell_of_heap hbox2]
  have : cs.toList[3]? = some (.slice (some ⟨b0, off, none⟩) m.2.2.2.1.length c) := by rw [hcs]; rfl
  simpa using this
 -- the pointer
 refine segT3 s2 d2 n5 n1 hcell3 hq hqn fun a3 k s3 d3 same3 t11 => ?_
 have el3 : Elder W { W2 with drawn := k } := el12.trans (Elder.drawn W2 k)
 have hbox3 : ({ W2 with drawn := k } : World).heap[W.heap.size]? = some (.cells cs 28 (0, 0)) := hbox2
 have sz3 : W.heap.size + 1 ≤ ({ W2 with drawn := k } : World).heap.size := by show _ ≤ W2.heap.size; have := el2.size; omega
 generalize ({ W2 with drawn := k } : World) = W3 at el3 hbox3 sz3 ⊢
 -- the copy
 have hL4 : Laid W3 84 a3 S (fun i => if i = 1000011 then ⟨0, .pointer (some ⟨b0, off + q * 8, none⟩), fun _ => undef⟩ else ⟨W.heap.size, undef, fun _ => undef⟩) (eA f pc x y) := by
  have l0 := Laid.nil (W := W3) (B := fun i => if i = 1000011 then ⟨0, .pointer (some ⟨b0, off + q * 8, none⟩), fun _ => undef⟩ else ⟨W.heap.size, undef, fun _ => undef⟩) d3 s3 (by omega : 84 ≤ 1000000) (fix := S) (fun b o hb => by have := (hS b o hb).1; omega)
  have l1 := l0.box (i := 1000005) (pv := .frz 28 [] 0) ⟨[], trivial, fun j u hu => by simp at hu⟩ rfl (fun _ => rfl)
  have l2 := l1.box (i := 1000011) (pv := .lrow .unit 0 0 0) trivial rfl (fun _ => rfl)
  have l3 := l2.int (t := 1) (k := .u8) (x := f) (by rw [same3 1 (by decide) (by decide)]; exact n1)
  have l4 := l3.int (t := 2) (k := .u8) (x := pc) (by rw [same3 2 (by decide) (by decide)]; exact n2)
  have l5 := l4.int (t := 3) (k := .u8) (x := x) (by rw [same3 3 (by decide) (by decide)]; exact n3)
  have l6 := l5.int (t := 4) (k := .u8) (x := y) (by rw [same3 4 (by decide) (by decide)]; exact n4)
  have l7 := l6.ptr (t := 5) (j := 1000005) rfl (by rw [same3 5 (by decide) (by decide)]; exact n5)
  exact l7.told (t := 11) (j := 1000011) (r := .unit) (m := 0) (v := 0) rfl t11
 refine segT4 (mt := mt) (ci := ci) hL4 rfl (Rep.mono (fun b o hb => ⟨hb, keep el3 b o hb⟩) _ _ _ hmt) (fun j u hu => ⟨(h8 j u hu).1, keep el3 _ _ (h8 j u hu).1 _ (h8 j u hu).2⟩) len0 (by simp only [rowMax]; omega) hpc fun a4 W4 fx l s4 d4 t5' t11' el4 hfx hfxlt hcode => ?_
 have t5' : a4.tmps.getD 5 undef = .pointer (some ⟨W.heap.size, 0, none⟩) := t5'
 have elA := el3.trans el4
 have hbox4 : W4.heap[W.heap.size]? = some (.cells cs 28 (0, 0)) := (el4.old _ (by omega)).trans hbox3
 have hc0 : W4.cell? ⟨b0, off + q * 8 + 4, none⟩ = some u3 := keep elA _ _ c4.1 _ c4.2
 have hz0 : W4.frozen? ⟨b0, off + q * 8 + 4, none⟩ = false := by rw [frozen_of_block (elA.old _ hb0)]; exact (hS _ _ c4.1).2
 refine segT7 s4 d4 t11' hc0 fun a5 s5 d5 same5 t14 => ?_
 have hcode' := hcode
 obtain ⟨Ac, capc, ec, -⟩ := hcode'
 injection ec with ec _
 refine segT8 s5 d5 (by rw [same5 11 (by decide) (by decide)]; exact t11') hc0 hz0 (by rw [same5 12 (by decide) (by decide)]; exact ec) fun a6 s6 d6 same6 => ?_
 obtain ⟨z1, z2, z3, z4, z5, z6⟩ := setCell_spec (u := .slice Ac l.length capc) hc0
 have os5 : (W4.setCell ⟨b0, off + q * 8 + 4, none⟩ (.slice Ac l.length capc)).os = W4.os ∧ (W4.setCell ⟨b0, off + q * 8 + 4, none⟩ (.slice Ac l.length capc)).tape = W4.tape ∧ (W4.setCell ⟨b0, off + q * 8 + 4, none⟩ (.slice Ac l.length capc)).output = W4.output := ⟨rfl, rfl, rfl⟩
 generalize W4.setCell ⟨b0, off + q * 8 + 4, none⟩ (.slice Ac l.length capc) = W5 at z1 z2 z3 z4 z5 z6 os5 ⊢
 -- the turned image
 have hT : Turn fx (fun b _ => b < W5.heap.size) W4 W5 b0 (off + q * 8 + 4) := by
  refine ⟨fun b o u hb hu hne => ⟨by rw [z1]; exact hfxlt b o hb, by rw [z4 b o hne]; exact hu⟩, ⟨A3, _, cap3, by rw [hc0, eu3]⟩, fun p hp => ?_, ?_⟩
  ·have : p = off + q * 8 + 3 := by omega
   subst this
   exact ⟨_, _, keep elA _ _ c3'.1 _ c3'.2⟩
  ·exact ⟨_, _, keep elA _ _ c5.1 _ c5.2⟩
 have up : ∀ {t : Ty} {z : t.D} {vs : List Value}, Rep S W t z vs → Rep fx W4 t z vs := fun h => Rep.mono (fun b o hb => ⟨hfx b o hb, keep elA b o hb⟩) _ _ _ h
 have hcode5 : Rep (fun b _ => b < W5.heap.size) W5 tyStyTIns l [.slice Ac l.length capc] := by
  rw [ec] at hcode
  exact hT.flat rfl hcode
 have hms := hT.methods (e := 38) (e1 := 35) (e2 := 35) (e3 := 41) (e4 := 3) (k := .i64) (r1 := tyTTp) (r2 := tyTTp) (r3 := tyTIns) (r4 := .int .i64) (f := q) (x := mt) (code := l) rfl rfl rfl rfl (up p4') hget rfl hcode5 ⟨by rw [z1]; exact hfxlt _ _ (hfx _ _ c4.1), z3⟩
 have him : Rep (fun b _ => b < W5.heap.size) W5 tyTIm (m.1, m.2.1, m.2.2.1, m.2.2.2.1.set q (setCode (e1 := 35) (e2 := 35) (e3 := 41) (e4 := 3) (k := .i64) (r1 := tyTTp) (r2 := tyTTp) (r3 := tyTIns) (r4 := .int .i64) mt l), m.2.2.2.2) cs.toList := by
  rw [hcs]
  exact im_make (m := (m.1, m.2.1, m.2.2.1, m.2.2.2.1.set q (setCode (e1 := 35) (e2 := 35) (e3 := 41) (e4 := 3) (k := .i64) (r1 := tyTTp) (r2 := tyTTp) (r3 := tyTIns) (r4 := .int .i64) mt l), m.2.2.2.2)) (hT.classes rfl rfl (up p1)) (hT.flat rfl (up p2)) (hT.flat rfl (up p3)) hms (hT.flat rfl (up p5))
 have hbox5 : W5.heap[W.heap.size]? = some (.cells cs 28 (0, 0)) := (z2 _ (by omega)).trans hbox4
 have t5'' : a6.tmps.getD 5 undef = .pointer (some ⟨W.heap.size, 0, none⟩) := by rw [same6 5 (by decide), same5 5 (by decide) (by decide)]; exact t5'
 have t11'' : a6.tmps.getD 11 undef = .pointer (some ⟨b0, off + q * 8, none⟩) := by rw [same6 11 (by decide), same5 11 (by decide) (by decide)]; exact t11'
 have t14'' : a6.tmps.getD 14 undef = u3 := by rw [same6 14 (by decide)]; exact t14
 generalize (m.1, m.2.1, m.2.2.1, m.2.2.2.1.set q (setCode (e1 := 35) (e2 := 35) (e3 := 41) (e4 := 3) (k := .i64) (r1 := tyTTp) (r2 := tyTTp) (r3 := tyTIns) (r4 := .int .i64) mt l), m.2.2.2.2) = m' at him
 have hL9 : Laid W5 84 a6 (fun b _ => b < W5.heap.size) (fun i => if i = 1000011 then ⟨0, .pointer (some ⟨b0, off + q * 8, none⟩), fun _ => undef⟩ else if i = 1000014 then ⟨0, u3, fun _ => undef⟩ else ⟨W.heap.size, undef, fun _ => undef⟩) (eD m') := by
  have l0 := Laid.nil (W := W5) (B := fun i => if i = 1000011 then ⟨0, .pointer (some ⟨b0, off + q * 8, none⟩), fun _ => undef⟩ else if i = 1000014 then ⟨0, u3, fun _ => undef⟩ else ⟨W.heap.size, undef, fun _ => undef⟩) d6 s6 (by omega : 84 ≤ 1000000) (fix := fun b _ => b < W5.heap.size) (fun b o hb => hb)
  have l1 := l0.box (i := 1000005) (pv := .frz 28 (tyTIm.split m') 0) ⟨cs.toList, Cells.split _ _ _ him, fun j u hu => ⟨by
   show W.heap.size < W5.heap.size
   exact (Array.getElem?_eq_some_iff.1 hbox5).1, by
   show W5.cell? ⟨W.heap.size, j, none⟩ = some u
   rw [cell_of_heap hbox5]; simpa using hu⟩⟩ rfl (fun _ => rfl)
  have l2 := l1.box (i := 1000011) (pv := .lrow .unit 0 0 0) trivial rfl (fun _ => rfl)
  have l3 := l2.box (i := 1000014) (pv := .lrow .unit 0 0 0) trivial rfl (fun _ => rfl)
  have l4 := l3.ptr (t := 5) (j := 1000005) rfl t5''
  have l5 := l4.told (t := 11) (j := 1000011) (r := .unit) (m := 0) (v := 0) rfl t11''
  exact l5.told (t := 14) (j := 1000014) (r := .unit) (m := 0) (v := 0) rfl t14''
 refine segT9 hL9 fun a7 W7 s7 d7 v11 v14 v15 el7 => ?_
 have v11 : a7.tmps.getD 11 undef = .pointer (some ⟨b0, off + q * 8, none⟩) := v11
 have v14 : a7.tmps.getD 14 undef = u3 := v14
 have hb5 : b0 < W5.heap.size := by rw [z1]; exact hfxlt _ _ (hfx _ _ c4.1)
 have hc7 : W7.cell? ⟨b0, off + q * 8 + 4, none⟩ = some (.slice Ac l.length capc) := by rw [World.cell?_of_block (w := W5) (el7.old _ hb5)]; exact z3
 have hz7 : W7.frozen? ⟨b0, off + q * 8 + 4, none⟩ = false := by rw [frozen_of_block (el7.old _ hb5), z5]; exact hz0
 refine segT10 s7 d7 v11 hc7 hz7 (by rw [v14]; exact eu3) fun a8 s8 d8 same8 => ?_
 rw [← eu3]
 have hback := z6 W7 (el7.old _ hb5)
 obtain ⟨y1, y2, -⟩ := setCell_spec (u := u3) hc7
 have elZ : Elder W (W7.setCell ⟨b0, off + q * 8 + 4, none⟩ u3) := by
  have e4 := elA
  refine ⟨?_, ?_, ?_, ?_, fun b hb => ?_⟩
  ·show W7.os = _
   rw [el7.os, os5.1, elA.os]
  ·show W7.tape = _
   rw [el7.tape, os5.2.1, elA.tape]
  ·show W7.output = _
   rw [el7.output, os5.2.2, elA.output]
  ·rw [y1]
   have := el7.size
   have := elA.size
   omega
  ·by_cases hbb : b = b0
   ·subst hbb
    rw [hback]
    exact elA.old _ hb
   ·rw [y2 b hbb, el7.old b (by rw [z1]; have := elA.size; omega), z2 b hbb]
    exact elA.old b hb
 generalize W7.setCell ⟨b0, off + q * 8 + 4, none⟩ u3 = W8 at elZ ⊢
 have hL11 : Laid W8 84 a8 (fun _ _ => False) (fun _ => ⟨0, undef, fun _ => undef⟩) (eE true) := by
  have l0 := Laid.nil (W := W8) (B := fun _ => ⟨0, undef, fun _ => undef⟩) d8 s8 (by omega : 84 ≤ 1000000) (fix := fun _ _ => False) (fun b o hb => hb.elim)
  refine l0.slot (t := 15) (pv := .val ⟨.bool, true, false⟩) ?_ (not_ptr rfl _)
  rw [same8 15 (by decide), v15]
  exact ⟨rfl, rfl, (fun hh => by cases hh)⟩
 exact segT11 hL11 fun a' W' q1 q2 q3 => hret a' W' q1 q2 (elZ.trans q3)
end
end Go.Pli
