/- PM: a region whose order is drawn, all of whose operations leave the world as it is. -/
import Derived.Test.YtibkgmpfncacpaaPMDrawB
namespace Go.PM
open Go
theorem Act.put_at {a : Act} {d t n : Nat} {v : Value} (hs : a.tmps.size = n) (hd : d < n) : (a.put (some d) v).tmps.size = n ∧ (a.put (some d) v).defers = a.defers ∧ (a.put (some d) v).tmps.getD t undef = if t = d then v else a.tmps.getD t undef := by
 refine ⟨by simp [Act.put, hs], rfl, ?_⟩
 simp only [Act.put, Array.getD_eq_getD_getElem?, Array.getElem?_setIfInBounds]
 by_cases h : t = d
 ·subst h; simp [hs, hd]
 ·rw [if_neg fun e => h e.symm, if_neg h]
section
variable {P : Program} {md : Region.Mode} {ops : Array Oper} {Q : Exit → Act → World → Prop} {W : World} {a0 : Act} {n : Nat} {D : Nat → Nat} {V : Nat → Value}
theorem wpAny_pure (hg : ∀ (i : Nat) o, ops[i]? = some o → o.guard = none ∧ o.dst = some (D i)) (hD : ∀ i, i < ops.size → D i < n) (hinj : ∀ i j, i < ops.size → j < ops.size → D i = D j → i = j)
  (hedge : ∀ (i : Nat) o, ops[i]? = some o → ∀ d ∈ o.after, Region.binds md d = true → d.on < i)
  (hstep : ∀ (i : Nat) o (a : Act), ops[i]? = some o → (∀ d ∈ o.after, Region.binds md d = true → a.tmps.getD (D d.on) undef = V d.on) → (∀ t, (∀ i, i < ops.size → t ≠ D i) → a.tmps.getD t undef = a0.tmps.getD t undef) → (execOp a.eval o).run P W = .ok (.value (V i)) W)
  (hQ : ∀ a : Act, a.tmps.size = n → a.defers = a0.defers → (∀ i, i < ops.size → a.tmps.getD (D i) undef = V i) → (∀ t, (∀ i, i < ops.size → t ≠ D i) → a.tmps.getD t undef = a0.tmps.getD t undef) → Q .normal a W) :
  ∀ (fuel : Nat) (listed : Array Bool) (a : Act), listed.size = ops.size → ((List.range ops.size).filter fun i => !listed.getD i true).length ≤ fuel → a.tmps.size = n → a.defers = a0.defers → (∀ i, i < ops.size → listed.getD i false = true → a.tmps.getD (D i) undef = V i) →
   (∀ t, (∀ i, i < ops.size → t ≠ D i) → a.tmps.getD t undef = a0.tmps.getD t undef) → wpAny P md ops Q fuel listed a W := by
 have hget : ∀ (listed : Array Bool) i, listed.size = ops.size → i < ops.size → listed.getD i true = listed.getD i false := fun listed i hl hi => by
  have hlt : i < listed.size := by omega
  simp only [Array.getD_eq_getD_getElem?, Array.getElem?_eq_getElem hlt, Option.getD_some]
 have hdone : ∀ (listed : Array Bool), listed.size = ops.size → Region.ready md ops listed = [] → ∀ i, i < ops.size → listed.getD i false = true := by
  intro listed hl hr i
  induction i using Nat.strongRecOn with
  | ind i ih =>
   intro hi
   cases hh : listed.getD i false with
   | true => rfl
   | false =>
    have ho : ops[i]? = some ops[i] := Array.getElem?_eq_getElem hi
    have : i ∈ Region.ready md ops listed := mem_ready.2 ⟨by rw [hget listed i hl hi]; exact hh, _, ho, fun d hd hb => ih d.on (hedge i _ ho d hd hb) (Nat.lt_trans (hedge i _ ho d hd hb) hi)⟩
    rw [hr] at this
    cases this
 have fin : ∀ (listed : Array Bool) (a : Act), listed.size = ops.size → Region.ready md ops listed = [] → a.tmps.size = n → a.defers = a0.defers → (∀ i, i < ops.size → listed.getD i false = true → a.tmps.getD (D i) undef = V i) →
   (∀ t, (∀ i, i < ops.size → t ≠ D i) → a.tmps.getD t undef = a0.tmps.getD t undef) → Q .normal a W := fun listed a hl hr hs hd hv ho => hQ a hs hd (fun i hi => hv i hi (hdone listed hl hr i hi)) ho
 intro fuel
 induction fuel with
 | zero =>
  intro listed a hl hlen hs hd hv ho
  have hnil : ((List.range ops.size).filter fun i => !listed.getD i true) = [] := List.eq_nil_of_length_eq_zero (by omega)
  have hr : Region.ready md ops listed = [] := by
   refine List.eq_nil_iff_forall_not_mem.2 fun i hi => ?_
   obtain ⟨h1, o, h2, -⟩ := mem_ready.1 hi
   have : i ∈ (List.range ops.size).filter fun i => !listed.getD i true := by
    rw [List.mem_filter, List.mem_range]
    exact ⟨(Array.getElem?_eq_some_iff.1 h2).1, by rw [h1]; rfl⟩
   rw [hnil] at this
   cases this
  exact ⟨hr, fin listed a hl hr hs hd hv ho⟩
 | succ fuel ih =>
  intro listed a hl hlen hs hd hv ho
  refine ⟨fun hr => fin listed a hl hr hs hd hv ho, fun i hi => ?_⟩
  obtain ⟨h1, o, h2, h3⟩ := mem_ready.1 hi
  have hin : i < ops.size := (Array.getElem?_eq_some_iff.1 h2).1
  obtain ⟨g1, g2⟩ := hg i o h2
  have hrun := hstep i o a h2 (fun d hdd hb => hv d.on (Nat.lt_trans (hedge i o h2 d hdd hb) hin) (h3 d hdd hb)) ho
  have hfil : ((List.range ops.size).filter fun j => !(listed.setIfInBounds i true).getD j true).length ≤ fuel := by
   have himem : i ∈ (List.range ops.size).filter fun j => !listed.getD j true := by
    rw [List.mem_filter, List.mem_range]
    exact ⟨hin, by rw [h1]; rfl⟩
   have hsub : ((List.range ops.size).filter fun j => !(listed.setIfInBounds i true).getD j true) = ((List.range ops.size).filter fun j => !listed.getD j true).erase i := by
    have hnd : ((List.range ops.size).filter fun j => !listed.getD j true).Nodup := List.Pairwise.filter _ List.nodup_range
    rw [hnd.erase_eq_filter, List.filter_filter]
    apply List.filter_congr
    intro j hj
    by_cases hji : j = i
    ·subst hji
     have : (listed.setIfInBounds j true).getD j true = true := by
      simp only [Array.getD_eq_getD_getElem?, Array.getElem?_setIfInBounds]
      simp
      split <;> rfl
     rw [this]; simp
    ·rw [getD_set_ne true (fun hh => hji hh.symm)]
     have : (j != i) = true := by simpa using hji
     simp [this]
   rw [hsub, List.length_erase_of_mem himem]
   omega
  have hwant : Region.wanted o (yielded ops a.tmps) = true := by unfold Region.wanted; rw [g1]
  unfold wpOp
  simp only [h2, hwant, if_true, Oper.wp, hrun, Oper.upon, g2]
  refine .inl (ih _ _ (by simpa using hl) hfil ?_ hd (fun j hj hjl => ?_) fun t ht => ?_)
  ·exact (Act.put_at (t := 0) hs (hD i hin)).1
  ·rw [(Act.put_at hs (hD i hin)).2.2]
   by_cases hji : j = i
   ·subst hji; rw [if_pos rfl]
   ·rw [if_neg fun e => hji (hinj j i hj hin e)]
    rw [getD_set_ne false (fun hh => hji hh.symm)] at hjl
    exact hv j hj hjl
  ·rw [(Act.put_at hs (hD i hin)).2.2, if_neg (ht i hin)]
   exact ho t ht
theorem pure_region {id : Nat} (hg : ∀ (i : Nat) o, ops[i]? = some o → o.guard = none ∧ o.dst = some (D i)) (hD : ∀ i, i < ops.size → D i < n) (hinj : ∀ i j, i < ops.size → j < ops.size → D i = D j → i = j)
  (hedge : ∀ (md : Region.Mode) (i : Nat) o, ops[i]? = some o → ∀ d ∈ o.after, Region.binds md d = true → d.on < i) (hs : a0.tmps.size = n)
  (hstep : ∀ (md : Region.Mode) (k : Nat) (i : Nat) o (a : Act), ops[i]? = some o → (∀ d ∈ o.after, Region.binds md d = true → a.tmps.getD (D d.on) undef = V d.on) → (∀ t, (∀ i, i < ops.size → t ≠ D i) → a.tmps.getD t undef = a0.tmps.getD t undef) → (execOp a.eval o).run P { W with drawn := k } = .ok (.value (V i)) { W with drawn := k })
  (hQ : ∀ (a : Act) k, a.tmps.size = n → a.defers = a0.defers → (∀ i, i < ops.size → a.tmps.getD (D i) undef = V i) → (∀ t, (∀ i, i < ops.size → t ≠ D i) → a.tmps.getD t undef = a0.tmps.getD t undef) → Q .normal a { W with drawn := k }) :
  (Code.region id ops true).wp P Q a0 W := by
 refine wp_region_draw fun t => schedule_any _ _ fun md => wpAny_pure (a0 := a0) (n := n) (V := V) hg hD hinj (hedge md) (fun i o a h1 h2 h3 => hstep md _ i o a h1 h2 h3) (fun a h1 h2 h3 h4 => hQ a _ h1 h2 h3 h4) ops.size _ a0 (by simp) ?_ hs rfl (fun i hi h => ?_) fun _ _ => rfl
 ·have := List.length_filter_le (fun i => !(Array.replicate ops.size false).getD i true) (List.range ops.size)
  rwa [List.length_range] at this
 ·simp [hi] at h
end
end Go.PM
