/- SaneTurned by hand: the code's copy, with one instruction's numbers turned. -/
import Derived.Test.YtibkgmpfncacpaaPliAt06F
namespace Go.Pli
open Go Go.PM Go.Proofs
theorem tmod_at {g : Int} {n : Nat} (hg : 0 ≤ g ∧ g < 256) (hn : 0 < n) : ∃ q : Nat, (IntKind.i64.wrap g).tmod (n : Int) = (q : Int) ∧ q < n := by
 rw [w64' (by omega) (by omega)]
 obtain ⟨k, rfl⟩ := Int.eq_ofNat_of_zero_le hg.1
 exact ⟨k % n, rfl, Nat.mod_lt _ hn⟩
theorem get6_some {e : Env} {l : List Ins} (h : get6 e = some l) : e (.slot 5) = .bptr 1000005 0 ∧ (e (.slot 11) = .hdr 1000011 0 ∧ ∃ t m v, e (.box 1000011) = .lrow t m 0 v) ∧ ∃ j hv ver, e (.slot 12) = .hdr j hv ∧ e (.box j) = .row 41 tyTIns l hv ver := by
 unfold get6 at h
 generalize he5 : e (.slot 5) = s5 at h ⊢
 generalize he : e (.slot 11) = s11 at h ⊢
 generalize he' : e (.slot 12) = s12 at h ⊢
 cases s5 <;> try cases h
 cases s11 <;> try cases h
 cases s12 <;> try cases h
 rename_i i o i2 h2 j hv
 cases hc : Nat.beq i 1000005 && (Nat.beq o 0 && (Nat.beq i2 1000011 && Nat.beq h2 0)) <;> simp only [hc, cond_true, cond_false] at h
 ·cases h
 simp only [Bool.and_eq_true] at hc
 obtain rfl := Nat.eq_of_beq_eq_true hc.1
 obtain rfl := Nat.eq_of_beq_eq_true hc.2.1
 obtain rfl := Nat.eq_of_beq_eq_true hc.2.2.1
 obtain rfl := Nat.eq_of_beq_eq_true hc.2.2.2
 split at h
 ·rename_i t1 n1 v1 w1 e' r xs hv' ver hb1 hb2
  cases hc2 : Nat.beq v1 0 && Nat.beq hv hv' <;> simp only [hc2, cond_true, cond_false] at h
  ·cases h
  simp only [Bool.and_eq_true] at hc2
  obtain rfl := Nat.eq_of_beq_eq_true hc2.1
  obtain rfl := Nat.eq_of_beq_eq_true hc2.2
  refine ⟨rfl, ⟨rfl, _, _, _, hb1⟩, j, hv, ver, rfl, ?_⟩
  rw [hb2]
  exact as_row' h hv ver
 ·cases h
noncomputable section
theorem segT4 {W : World} {a : Act} {Q : Exit → Act → World → Prop} {f pc x y : Int} {fix : Nat → Nat → Prop} {B : Nat → Bx} {mt : Mt} {b0 p : Nat} {ci : List Value} (hL : Laid W 84 a fix B (eA f pc x y)) (h11 : (B 1000011).h = .pointer (some ⟨b0, p, none⟩))
  (hr : Rep fix W tyTMt mt ci) (hci : ∀ (j : Nat) u, ci[j]? = some u → fix b0 (p + j) ∧ W.cell? ⟨b0, p + j, none⟩ = some u) (hl0 : 0 < mt.2.2.2.1.length) (hl1 : mt.2.2.2.1.length < rowMax) (hpc : 0 ≤ pc ∧ pc < 256)
  (h : ∀ (a' : Act) (W' : World) (fx : Nat → Nat → Prop) (l : List Ins), a'.tmps.size = 84 → a'.defers = [] → a'.tmps.getD 5 undef = .pointer (some ⟨(B 1000005).b, 0, none⟩) → a'.tmps.getD 11 undef = .pointer (some ⟨b0, p, none⟩) → Elder W W' → (∀ b o, fix b o → fx b o) → (∀ b o, fx b o → b < W'.heap.size) → Rep fx W' tyStyTIns l [a'.tmps.getD 12 undef] → st7.wp Try.prog Q a' W') :
  st4.wp Try.prog Q a W := by
 obtain ⟨q, hq, hqn⟩ := tmod_at hpc hl0
 have hx : runOps GT ops4 (ops4.toList.drop 2) (eC f pc x y mt) (fun e => exec GT AT 1 (hd4 st5) e kT5) = some (turnA mt.2.2.2.1 q x y) := by
  rw [execC]
  simp only [List.nil_append, List.length_nil, Nat.zero_add, decide_eq_true hl1, Bool.and_self, cond_true, hq, dge, dlt hqn, Int.toNat_natCast]
  rw [decide_eq_false (show ¬ ((mt.2.2.2.1.length : Int) = 0) by omega)]
  rfl
 generalize turnA mt.2.2.2.1 q x y = l at hx
 rw [reg4]
 apply wp_seq
 apply wp_region_list
 rw [list4]
 have r0 := runB f pc x y
 obtain ⟨z0, z1⟩ := op40
 obtain ⟨y0, y1, y2⟩ := op41
 generalize opOf ops4 0 = o0 at z0 z1 r0 ⊢
 generalize opOf ops4 1 = o1 at y0 y1 y2 ⊢
 refine wpList_plain z0 fun K hK => op_sound GTok _ hL.1 z1 r0 fun a1 W1 g1 s1 => hK _ _ ?_
 clear K hK
 have t11 : a1.tmps.getD 11 undef = .pointer (some ⟨b0, p, none⟩) := by
  rw [← h11]
  exact told_eq s1 (by omega) (r := .unit) (m := 0) (v := 0) rfl rfl
 refine wpList_plain y0 fun K hK => wp_value (v := .pointer (some ⟨b0, p, none⟩)) (W' := W1) (by have := rMove (P := Try.prog) (a := a1) (W := W1) y1; rwa [t11] at this) (hK _ _ ?_)
 clear K hK
 rw [y2]
 have s2 : St W (fun _ => False) ⟨fix, B⟩ 84 (eC f pc x y mt) (a1.put (some 41) (.pointer (some ⟨b0, p, none⟩))) W1 g1 := by
  refine s1.put (d := 41) (by show 41 < 84; decide) (pv := .eptr (tyTMt.split mt)) ⟨_, rfl, rfl, fun j d hj => ?_⟩ trivial
  obtain ⟨u, u1, u2⟩ := (Cells.split _ _ _ hr).get j d hj
  obtain ⟨w1, w2⟩ := hci j u u1
  exact ⟨u, Rep.mono (fun b o hb => s1.fixOld b o hb) _ _ _ u2, (s1.fixOld _ _ w1).1, (s1.fixOld _ _ w1).2 _ w2⟩
 generalize a1.put (some 41) (.pointer (some ⟨b0, p, none⟩)) = a2 at s2 ⊢
 have hWg : ∀ (j : Nat) (d : Nat), (ops4[j]?).bind (fun o : Oper => o.dst) = some d → d ∈ writes GT (.region 4 ops4 false) := fun j d hj => by
  simp only [writes, List.mem_flatMap]
  cases hj2 : ops4[j]? with
  | none => rw [hj2] at hj; cases hj
  | some o =>
   rw [hj2] at hj
   exact ⟨o, by simpa using Array.mem_of_getElem? hj2, by simp only [Option.bind_some] at hj; simp [opWrites, hj]⟩
 have hWs : ∀ o ∈ ops4.toList.drop 2, ∀ t ∈ opWrites GT o, t ∈ writes GT (.region 4 ops4 false) := fun o ho t ht => by
  simp only [writes, List.mem_flatMap]
  exact ⟨o, List.mem_of_mem_drop ho, ht⟩
 refine runOps_sound (Ws := writes GT (.region 4 ops4 false)) GTok hWg (ops4.toList.drop 2) s2 hx hWs fun e3 a3 W3 g3 hk3 _ s3 => ?_
 show st5.wp Try.prog Q a3 W3
 rw [reg5]
 apply wp_seq
 refine exec_sound (A := AT) (fuel := 1) GTok (hd4 st5) s3 hk3 fun ex e4 a4 W4 g4 hk4 _ s4 => ?_
 cases ex with
 | exit _ => cases hk4
 | ret => cases hk4
 | normal =>
 show st6.wp Try.prog Q a4 W4
 rw [reg6]
 apply wp_seq
 refine exec_sound (A := AT) (fuel := 1) GTok (hd4 st6) s4 hk4 fun ex e5 a5 W5 g5 hk5 _ s5 => ?_
 cases ex with
 | exit _ => cases hk5
 | ret => cases hk5
 | normal =>
 show st7.wp Try.prog Q a5 W5
 obtain ⟨q5, ⟨q11, _, _, _, b11⟩, j, hv, ver, q12, b12⟩ := get6_some hk5
 obtain ⟨g', k1, k2, k3, k4⟩ := s5.thawRow b12
 have hp := s5.ptr 12
 rw [q12] at hp
 have e12 := (hdr_row s5 hp b12).1
 refine h a5 W5 g'.fix l s5.tmps s5.defers (ptr_eq s5 (by omega) q5) (by rw [← h11]; exact told_eq s5 (by omega) q11 b11) (St.elder s5) (fun b o hb => k4 b o (s5.fixOld b o hb).1) k2.fixLt ?_
 rw [e12]
 exact k3
end
end Go.Pli
