/- PM: each operation, sound: the third part: memory that is read, and what a call makes for itself. -/
import Derived.Test.YtibkgmpfncacpaaPMOpsB
namespace Go.PM
open Go
section
variable {P : Program} {G : Ctx} {w0 : World} {T : Nat → Prop} {f0 : F0} {o : Oper}
theorem add_none {ad : Addr} (h : ad.spot = none) (k : Nat) : ad.add k = ⟨ad.block, ad.off + k, none⟩ := by
 obtain ⟨b, f, s⟩ := ad
 simp only at h
 subst h
 exact Addr.add_lit b f k
theorem Cells.drop {fix : Nat → Nat → Prop} {W : World} : ∀ (n : Nat) {ds : List DV} {vs : List Value}, Cells fix W ds vs → Cells fix W (ds.drop n) (vs.drop n)
 | 0, _, _, h => h
 | _ + 1, [], [], _ => trivial
 | n + 1, _ :: _, _ :: _, h => Cells.drop n h.2
theorem Cells.take {fix : Nat → Nat → Prop} {W : World} : ∀ (n : Nat) {ds : List DV} {vs : List Value}, Cells fix W ds vs → Cells fix W (ds.take n) (vs.take n)
 | 0, _, _, _ => trivial
 | _ + 1, [], [], _ => trivial
 | n + 1, _ :: _, _ :: _, h => ⟨h.1, Cells.take n h.2⟩
theorem one_not_agg {v : Value} (h : v.oneCell' = true) : Value.isAgg v = false := by cases v <;> simp [Value.oneCell'] at h <;> rfl
theorem load_cells {t : TypeId} {ty : Ty} (ht : TyOk P t ty) {fix : Nat → Nat → Prop} {W : World} {ad : Addr} {cs : List DV} {lo : Nat} {vs : List Value} (hs : ad.spot = none)
  (hc : Cells fix W cs vs) (hcell : ∀ (j : Nat) u, vs[lo + j]? = some u → j < ty.sz → W.cell? ⟨ad.block, ad.off + j, none⟩ = some u) (hl : lo + ty.sz ≤ cs.length) (hz : 0 < ty.sz) :
  ∃ v, (Instr.loadAt t (.pointer (some ad))).run P W = .ok v W ∧ ∀ (g : Gh), g.fix = fix → Dat g W (loadAs ty cs lo) v := by
 have hlen := hc.len
 cases ha : ty.isAgg
 ·have h1 : ty.sz = 1 := by cases ty <;> simp [Ty.isAgg] at ha <;> rfl
  have hlo : lo < cs.length := by omega
  obtain ⟨v, hv, hr⟩ := hc.get lo _ (List.getElem?_eq_getElem hlo)
  have hload := hcell 0 v (by simpa using hv) (by omega)
  simp only [Nat.add_zero] at hload
  have hadeq : ad = ⟨ad.block, ad.off, none⟩ := by obtain ⟨b, f, s⟩ := ad; simp only at hs; subst hs; rfl
  refine ⟨v, ?_, fun g hg => ?_⟩
  ·simp only [Instr.loadAt, Instr.sureAddr, Sem.run_bind, Sem.run_pure, Result.andThen_ok, loadVar, ht.run_isAgg, ha, Bool.false_eq_true, if_false, run_load]
   rw [hadeq, hload]
  ·unfold loadAs
   rw [if_neg (by simp [ha])]
   have hd : cs.drop lo = cs[lo] :: cs.drop (lo + 1) := List.drop_eq_getElem_cons hlo
   rw [hd]
   subst hg
   exact ⟨one_not_agg (hr.one _ _ _ v (by simp)), hr, fun hh => by simp [DV.clear] at hh⟩
 ·have hrow := run_loadCells_list (P := P) W ad ((vs.drop lo).take ty.sz) (fun j u hu => by
   rw [List.getElem?_take] at hu
   split at hu
   ·rename_i hj
    rw [List.getElem?_drop] at hu
    rw [add_none hs]
    exact hcell j u hu hj
   ·cases hu)
  have hn : ((vs.drop lo).take ty.sz).length = ty.sz := by rw [List.length_take, List.length_drop]; omega
  rw [hn] at hrow
  refine ⟨.agg ((vs.drop lo).take ty.sz).toArray, ?_, fun g hg => ?_⟩
  ·simp only [Instr.loadAt, Instr.sureAddr, Sem.run_bind, Sem.run_pure, Result.andThen_ok, loadVar, ht.run_isAgg, ha, if_true, ht.run_size, hrow]
  ·unfold loadAs
   rw [if_pos ha]
   subst hg
   exact ⟨_, rfl, (hc.drop lo |>.take ty.sz).clear, NilTips.clear _ _⟩
theorem loadAs_clear {ty : Ty} {cs : List DV} {lo : Nat} : (loadAs ty cs lo).clear = loadAs ty cs lo := by
 unfold loadAs
 split
 ·rfl
 ·split <;> rfl
theorem loadAs_ptr {ty : Ty} {cs : List DV} {lo : Nat} (e : Env) {g : Gh} {v : Value} : PtrOk e g (loadAs ty cs lo) v := by
 refine not_ptr ?_ e
 unfold loadAs
 split
 ·rfl
 ·split <;> rfl
theorem cell_of_heap {W : World} {b : Nat} {vs : Array Value} {t : TypeId} {fr : Nat × Nat} (h : W.heap[b]? = some (.cells vs t fr)) (j : Nat) : W.cell? ⟨b, j, none⟩ = vs[j]? := by
 simp [World.cell?, h]
theorem run_fieldAt {t : TypeId} {ty : Ty} (ht : TyOk P t ty) {f off : Nat} {ft : Ty} (hf : ty.fld f = some (off, ft)) {ad : Addr} (hs : ad.spot = none) (W : World) :
  (Instr.fieldAt t (.pointer (some ad)) f).run P W = .ok (.pointer (some ⟨ad.block, ad.off + off, none⟩)) W := by
 obtain ⟨fs, fd, h1, h2, h3, h4, h5, h6⟩ := ht.field hf
 have hne : ¬ ft.sz = 0 := by omega
 simp [Instr.fieldAt, run_underlying h1, h2, Instr.sureAddr, fieldPlace, h4.run_size, hne, h3, add_none hs]
theorem sound_fieldAddr {t : TypeId} {x : Operand} {f : Nat} (hG : CtxTys P G) (ho : o.op = .fieldAddr t x f) : Sound P G w0 T f0 o := by
 intro e e' a W g K Q h hd hr hK
 simp only [opV, ho] at hr
 split at hr
 ·rename_i ty hty
  have htk := hG _ _ hty
  split at hr
  ·rename_i off ft hf
   obtain ⟨pv, hr1, hdat, hp⟩ := getV_sound h hr
   clear hr
   split at hr1
   ·rename_i i lo
    have hv : a.eval x = .pointer (some ⟨(g.bx i).b, lo, none⟩) := hdat
    rw [put_run hr1] at hK
    refine wp_value (v := .pointer (some ⟨(g.bx i).b, lo + off, none⟩)) (by simp [execOp, ho, hv, run_fieldAt htk hf (ad := ⟨(g.bx i).b, lo, none⟩) rfl]) (hK _ _ _ (h.putDat hd ?_ rfl ?_))
    ·exact (rfl : Value.pointer (some ⟨(g.bx i).b, lo + off, none⟩) = _)
    ·exact hp
   ·rename_i cs
    obtain ⟨ad, hv, hs, hc⟩ := hdat
    split at hr1
    ·rename_i hl
     refine value_put h hd hr1 rfl rfl (v := .pointer (some ⟨ad.block, ad.off + off, none⟩)) ⟨⟨ad.block, ad.off + off, none⟩, rfl, rfl, fun j d hj => ?_⟩ (by simp [execOp, ho, hv, run_fieldAt htk hf hs]) hK
     simp only [cellsAt, List.getElem?_take] at hj
     split at hj
     ·rw [List.getElem?_drop] at hj
      obtain ⟨u, h1, h2, h3⟩ := hc (off + j) d hj
      rw [← Nat.add_assoc] at h2 h3
      exact ⟨u, h1, h2, h3⟩
     ·cases hj
    ·simp [Prog.run] at hr1
   ·simp [Prog.run] at hr1
  ·simp [Prog.run] at hr
 ·simp [Prog.run] at hr
theorem sound_field {t : TypeId} {x : Operand} {f : Nat} (hG : CtxTys P G) (ho : o.op = .field t x f) : Sound P G w0 T f0 o := by
 intro e e' a W g K Q h hd hr hK
 simp only [opV, ho] at hr
 split at hr
 ·rename_i ty hty
  have htk := hG _ _ hty
  split at hr
  ·rename_i off ft hf
   obtain ⟨pv, hr1, hdat, hp⟩ := getV_sound h hr
   clear hr
   split at hr1
   ·rename_i cs
    obtain ⟨vs, hv, hc, -⟩ := hdat
    split at hr1
    ·rename_i hl
     obtain ⟨fs, fd, k1, k2, k3, k4, k5, k6⟩ := htk.field hf
     have hlen := hc.len
     have hparts : ∃ c0 c1 c2, vs.toList = c0 ++ (c1 ++ c2) ∧ c0.length = off ∧ c1 = (vs.toList.drop off).take ft.sz ∧ c1.length = ft.sz := by
      refine ⟨vs.toList.take off, (vs.toList.drop off).take ft.sz, (vs.toList.drop off).drop ft.sz, ?_, ?_, rfl, ?_⟩
      ·rw [List.take_append_drop, List.take_append_drop]
      ·rw [List.length_take]; omega
      ·rw [List.length_take, List.length_drop]; omega
     obtain ⟨c0, c1, c2, p1, p2, p3, p4⟩ := hparts
     have hc1 := (hc.drop off).take ft.sz
     rw [← p3] at hc1
     have hrun : ∃ v, (part fd.type vs fd.offset).run P W = .ok v W ∧ Dat g W (loadAs ft cs off) v := by
      cases ha : ft.isAgg
      ·have h1 : ft.sz = 1 := by cases ft <;> simp [Ty.isAgg] at ha <;> rfl
       have hlo : off < cs.length := by omega
       obtain ⟨v, hv1, hr⟩ := hc.get off _ (List.getElem?_eq_getElem hlo)
       refine ⟨v, ?_, ?_⟩
       ·simp only [part, Sem.run_bind, k4.run_isAgg, ha, Result.andThen_ok, Bool.false_eq_true, if_false, k3]
        have : vs[off]? = some v := by simpa using hv1
        rw [this]
        rfl
       ·unfold loadAs
        rw [if_neg (by simp [ha]), List.drop_eq_getElem_cons hlo]
        exact ⟨one_not_agg (hr.one _ _ _ v (by simp)), hr, fun hh => by simp [DV.clear] at hh⟩
      ·refine ⟨.agg c1.toArray, ?_, ?_⟩
       ·simp only [part, Sem.run_bind, k4.run_isAgg, ha, Result.andThen_ok, if_true, k4.run_size, k3, Sem.run_pure]
        congr 2
        apply Array.ext'
        rw [Array.toList_extract, List.toList_toArray, p3, List.extract_eq_take_drop]
        congr 1
        omega
       ·unfold loadAs
        rw [if_pos ha]
        exact ⟨_, rfl, hc1.clear, NilTips.clear _ _⟩
     obtain ⟨v, hrun, hdv⟩ := hrun
     rw [put_run hr1] at hK
     exact wp_value (v := v) (by simp [execOp, ho, hv, Instr.field, run_underlying k1, k2, asAgg, hrun]) (hK _ _ _ (h.putDat hd hdv loadAs_clear (loadAs_ptr e)))
    ·simp [Prog.run] at hr1
   ·simp [Prog.run] at hr1
  ·simp [Prog.run] at hr
 ·simp [Prog.run] at hr
theorem sound_indexAddr {t : TypeId} {x i : Operand} (hG : CtxTys P G) (ho : o.op = .indexAddr t x i) : Sound P G w0 T f0 o := by
 intro e e' a W g K Q h hd hr hK
 simp only [opV, ho] at hr
 split at hr
 ·rename_i el r hty
  have htk := hG _ _ hty
  obtain ⟨xs, hr1, hx⟩ := getD_sound h hr
  obtain ⟨kd, n, hr2, hi⟩ := getInt_sound h hr1
  obtain ⟨hb, hr3⟩ := chk_run hr2
  clear hr hr1 hr2
  simp only [Bool.and_eq_true, decide_eq_true_eq] at hb
  obtain ⟨h0, h1⟩ := hb
  obtain ⟨m, rfl⟩ := Int.eq_ofNat_of_zero_le h0
  have hm : m < xs.length := by omega
  obtain ⟨hag, hrep⟩ := hx
  rw [isAgg_false_cells hag] at hrep
  obtain ⟨A, c, e1, e2, e3⟩ := hrep
  have hv : a.eval x = .slice A xs.length c := by injection e1
  obtain ⟨ad, hA, hs, hc⟩ := e3 (by intro hn; rw [hn] at hm; simp at hm)
  subst hA
  obtain ⟨ci, hci, hcell⟩ := hc m _ (List.getElem?_eq_getElem hm)
  have hu := htk.sl_und
  have hel : P.elem t = el := by simp [Program.elem, hu]
  refine value_put h hd hr3 rfl rfl (v := .pointer (some (ad.add (m * r.sz)))) ⟨ad.add (m * r.sz), rfl, by rw [add_none hs], fun j d hj => ?_⟩ ?_ hK
  ·have hgd : xs.getD (Int.toNat (m : Int)) r.zero = xs[m] := by simp [hm]
   rw [hgd] at hj
   obtain ⟨u, hu1, hu2⟩ := (Cells.split r _ _ hci).get j d hj
   obtain ⟨hf, hw⟩ := hcell j u hu1
   rw [add_none hs]
   exact ⟨u, hu2, hf, hw⟩
  ·simp only [execOp, ho, hv, hi, Sem.run_bind, Sem.run_pure]
   rw [run_indexAt_slice W t ad xs.length c kd m (by rw [hel]; exact hu), if_pos ⟨h0, h1⟩, hel, htk.sl_row.run_size]
   simp
 ·simp [Prog.run] at hr
end
end Go.PM
