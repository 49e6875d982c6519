/- PM: regions whose order is drawn, sound. -/
import Derived.Test.YtibkgmpfncacpaaPMDraw
namespace Go.PM
open Go
theorem nth_get {α : Type} : ∀ (l : List α) (n : Nat), nth l n = l[n]?
 | [], _ => by simp [nth]
 | x :: l, 0 => rfl
 | x :: l, n + 1 => by simp [nth, nth_get l n]
theorem memB_iff {n : Nat} : ∀ {l : List Nat}, memB n l = true ↔ n ∈ l
 | [] => by simp [memB]
 | m :: l => by simp [memB, memB_iff (l := l)]
def SameL (x y : Log) : Prop := Same x.1 y.1 ∧ Same x.2 y.2
theorem Apart.same {x y x' y' : Log} (h : Apart x y) (hx : SameL x x') (hy : SameL y y') : Apart x' y' :=
 ⟨fun p hp hq => h.rw p ((hx.1 p).2 hp) ((hy.2 p).2 hq), fun p hp hq => h.wr p ((hx.2 p).2 hp) ((hy.1 p).2 hq), fun p hp hq => h.ww p ((hx.2 p).2 hp) ((hy.2 p).2 hq)⟩
theorem freeOk_spec {logs : List Log} {x : Log} : ∀ {fr : List Nat}, freeOk logs x fr = true → ∀ a ∈ fr, ∃ y, logs[a]? = some y ∧ Apart y x
 | [], _, _, h => by simp at h
 | b :: fr, h, a, ha => by
  simp only [freeOk, Bool.and_eq_true] at h
  rcases List.mem_cons.1 ha with hh | hh
  ·subst hh
   have h1 := h.1
   rw [nth_get] at h1
   split at h1
   ·rename_i y hy
    exact ⟨y, hy, logApart_spec h1⟩
   ·cases h1
  ·exact freeOk_spec h.2 a hh
theorem runDraw_spec {R : Type} {G : Ctx} {ops : Array Oper} {F : List (List Nat)} {c : Env → Option R} {r : R} : ∀ (l : List Oper) (logs : List Log) (F' : List (List Nat)) (e : Env) (Lp : Nat → Log),
  (∀ a y, logs[a]? = some y → SameL y (Lp a)) → ops.toList.drop logs.length = l → F.drop logs.length = F' → runDraw G ops F' l logs e c = some r →
  ∃ L e', (∀ a, a < logs.length → L a = Lp a) ∧ RunsTo G ops L (List.range' logs.length l.length) e e' ∧ c e' = some r ∧
   ∀ (j : Nat) fr, logs.length ≤ j → j < logs.length + l.length → F[j]? = some fr → ∀ a ∈ fr, a < j ∧ Apart (L a) (L j)
 | [], logs, F', e, Lp, hlog, hl, hF, h => ⟨Lp, e, fun _ _ => rfl, rfl, by cases F' <;> exact h, fun j fr h1 h2 => by simp at h2; omega⟩
 | o :: l, logs, [], e, Lp, hlog, hl, hF, h => by simp [runDraw] at h
 | o :: l, logs, fr :: F', e, Lp, hlog, hl, hF, h => by
  simp only [runDraw] at h
  obtain ⟨Li, e1, rs, ws, h1, h2, h3, h4⟩ := stepOpG_log h
  cases hfr : freeOk logs (rs, ws) fr <;> simp only [hfr, cond_true, cond_false] at h2
  ·cases h2
  have hsame : SameL (rs, ws) Li := ⟨h3, h4⟩
  have hlen : (logs ++ [(rs, ws)]).length = logs.length + 1 := by simp
  obtain ⟨L, e', k1, k2, k3, k4⟩ := runDraw_spec (F := F) l (logs ++ [(rs, ws)]) F' e1 (fun a => if a = logs.length then Li else Lp a) (fun a y hy => by
   rw [List.getElem?_append] at hy
   split at hy
   ·rename_i ha
    have : ¬ a = logs.length := by omega
    simp only [this, if_false]
    exact hlog a y hy
   ·rename_i ha
    have haeq : a = logs.length := by
     have := (List.getElem?_eq_some_iff.1 hy).1
     simp at this; omega
    subst haeq
    simp at hy
    subst hy
    simpa using hsame) (by rw [hlen, ← List.drop_drop, hl]; rfl) (by rw [hlen, ← List.drop_drop, hF]; rfl) h2
  rw [hlen] at k1 k2 k4
  have hLi : L logs.length = Li := by rw [k1 _ (by omega)]; simp
  refine ⟨L, e', fun a ha => ?_, ?_, k3, fun j fr' j1 j2 hj a ha => ?_⟩
  ·rw [k1 a (by omega)]
   have : ¬ a = logs.length := by omega
   simp [this]
  ·rw [List.length_cons, List.range'_succ]
   refine ⟨o, e1, ?_, by rw [hLi]; exact h1, k2⟩
   have : ops.toList[logs.length]? = some o := by
    have := congrArg (fun l => l[0]?) hl
    simpa using this
   simpa using this
  ·by_cases hjl : j = logs.length
   ·subst hjl
    have hfr' : fr' = fr := by
     have := congrArg (fun l => l[0]?) hF
     simp [hj] at this
     exact this
    subst hfr'
    obtain ⟨y, y1, y2⟩ := freeOk_spec hfr a ha
    have hal : a < logs.length := (List.getElem?_eq_some_iff.1 y1).1
    refine ⟨hal, ?_⟩
    rw [hLi, k1 a (by omega)]
    have : ¬ a = logs.length := by omega
    simp only [this, if_false]
    exact y2.same (hlog a y y1) hsame
   ·exact k4 j fr' (by omega) (by simp at j2; omega) hj a ha
inductive Anc (ops : Array Oper) : Nat → Nat → Prop where
 | base {i : Nat} {o : Oper} {d : Edge} (ho : ops[i]? = some o) (hd : d ∈ o.after) (hb : Region.binds .any d = true) : Anc ops d.on i
 | step {a i : Nat} {o : Oper} {d : Edge} (h : Anc ops a d.on) (ho : ops[i]? = some o) (hd : d ∈ o.after) (hb : Region.binds .any d = true) : Anc ops a i
theorem rowOk_spec {F : List (List Nat)} {o : Oper} {fr : List Nat} : ∀ {i : Nat}, rowOk F o fr i = true → ∀ a, a < i → a ∈ fr ∨ ∃ d ∈ o.after, edgeOk F a d = true
 | 0, _, a, ha => by omega
 | i + 1, h, a, ha => by
  simp only [rowOk, Bool.and_eq_true, Bool.or_eq_true] at h
  by_cases hai : a = i
  ·subst hai
   rcases h.1 with h1 | h1
   ·exact .inl (memB_iff.1 h1)
   ·simp only [List.any_eq_true] at h1
    obtain ⟨d, hd, he⟩ := h1
    exact .inr ⟨d, by simpa using hd, he⟩
  ·exact rowOk_spec h.2 a (by omega)
def mdRank (rk : List Nat) (md : Region.Mode) (i : Nat) : Nat := match md with
 | .gc => rkOf rk i
 | _ => i
theorem edgeLt_spec {rk : List Nat} {n i : Nat} {d : Edge} (h : edgeLt rk n i d = true) (hi : i < n) : (Region.binds .any d = true → d.on < i) ∧ ∀ md, Region.binds md d = true → mdRank rk md d.on < mdRank rk md i ∧ d.on < n := by
 unfold edgeLt at h
 unfold Region.binds
 split at h
 ·rename_i dp hg
  simp only [Bool.and_eq_true] at h
  have h1 : rkOf rk d.on < rkOf rk i := by simpa using h.1
  have h2 : d.on < n := by simpa using h.2
  rw [hg]
  refine ⟨fun hb => by simp at hb, fun md hb => ?_⟩
  cases md <;> simp at hb
  exact ⟨h1, h2⟩
 ·rename_i dp hg
  have h1 : d.on < i := by simpa using h
  rw [hg]
  refine ⟨fun hb => by simp at hb, fun md hb => ?_⟩
  cases md <;> simp at hb
  exact ⟨h1, by omega⟩
 ·simp only [Bool.and_eq_true] at h
  have h1 : d.on < i := by simpa using h.1
  have h2 : rkOf rk d.on < rkOf rk i := by simpa using h.2
  refine ⟨fun _ => h1, fun md _ => ⟨?_, by omega⟩⟩
  cases md
  ·exact h1
  ·exact h2
  ·exact h1
theorem drawOk_spec {rk : List Nat} {F : List (List Nat)} : ∀ {l : List Oper} {F' : List (List Nat)} {i : Nat}, drawOk rk F i F' l = true → F'.length = l.length ∧ ∀ (j : Nat) o fr, l[j]? = some o → F'[j]? = some fr →
  (∀ d ∈ o.after, edgeLt rk F.length (i + j) d = true) ∧ ∀ a, a < i + j → a ∈ fr ∨ ∃ d ∈ o.after, edgeOk F a d = true
 | [], [], i, _ => ⟨rfl, fun j o fr h => by simp at h⟩
 | [], _ :: _, _, h => by simp [drawOk] at h
 | _ :: _, [], _, h => by simp [drawOk] at h
 | o :: l, fr :: F', i, h => by
  simp only [drawOk, Bool.and_eq_true, List.all_eq_true] at h
  obtain ⟨h1, h2, h3⟩ := h
  obtain ⟨k1, k2⟩ := drawOk_spec h3
  refine ⟨by simp [k1], fun j o' fr' ho hf => ?_⟩
  cases j with
  | zero =>
   simp at ho hf
   subst ho; subst hf
   exact ⟨fun d hd => h1 d (by simpa using hd), fun a ha => rowOk_spec h2 a ha⟩
  | succ j =>
   have := k2 j o' fr' (by simpa using ho) (by simpa using hf)
   rw [Nat.add_assoc, Nat.add_comm 1] at this
   exact this
theorem drawOk_anc {ops : Array Oper} {rk : List Nat} {F : List (List Nat)} (h : drawOk rk F 0 F ops.toList = true) : ∀ (i : Nat) fr, F[i]? = some fr → ∀ a, a < i → a ∈ fr ∨ Anc ops a i := by
 obtain ⟨hl, hs⟩ := drawOk_spec h
 intro i
 induction i using Nat.strongRecOn with
 | ind i ih =>
  intro fr hfr a ha
  have hi : i < ops.toList.length := by rw [← hl]; exact (List.getElem?_eq_some_iff.1 hfr).1
  have ho : ops.toList[i]? = some ops.toList[i] := List.getElem?_eq_getElem hi
  obtain ⟨h1, h2⟩ := hs i _ fr ho hfr
  rw [Nat.zero_add] at h1 h2
  rcases h2 a ha with hm | ⟨d, hd, he⟩
  ·exact .inl hm
  ·have ho' : ops[i]? = some ops.toList[i] := by simp
   simp only [edgeOk, Bool.and_eq_true, Bool.or_eq_true] at he
   obtain ⟨hb, he⟩ := he
   rcases he with he | ⟨he1, he2⟩
   ·have : d.on = a := by simpa using he
    rw [← this]
    exact .inr (.base ho' hd hb)
   ·rw [nth_get] at he2
    split at he2
    ·rename_i l hl2
     have hlt : a < d.on := by simpa using he1
     rcases ih d.on ((edgeLt_spec (h1 d hd) (by rw [hl]; exact hi)).1 hb) l hl2 a hlt with hm | hm
     ·have : memB a l = true := memB_iff.2 hm
      rw [this] at he2; cases he2
     ·exact .inr (.step hm ho' hd hb)
    ·cases he2
section
variable {P : Program} {G : Ctx} {w0 : World} {T : Nat → Prop} {f0 : F0} {Q : Exit → Act → World → Prop}
theorem getD_ft {A : Array Bool} {n : Nat} (h : A.getD n false = true) : A.getD n true = true := by
 rw [Array.getD_eq_getD_getElem?] at h ⊢
 cases hx : A[n]? with
 | none => rfl
 | some v => rw [hx] at h; exact h
theorem binds_any {md : Region.Mode} {d : Edge} (h : Region.binds .any d = true) : Region.binds md d = true := by
 unfold Region.binds at h ⊢
 split at h <;> simp_all
theorem takeWhile_lt {n i : Nat} {p : Nat → Bool} {a : Nat} (hi : i ∈ (List.range n).filter p) (ha : a ∈ ((List.range n).filter p).takeWhile (· != i)) : a < i ∧ a ∈ (List.range n).filter p := by
 have hsub : a ∈ (List.range n).filter p := (List.takeWhile_sublist _).subset ha
 refine ⟨?_, hsub⟩
 have hs : ((List.range n).filter p).Pairwise (· < ·) := List.Pairwise.filter _ List.pairwise_lt_range
 generalize (List.range n).filter p = l at hi ha hs
 induction l with
 | nil => simp at ha
 | cons x l ih =>
  rw [List.takeWhile_cons] at ha
  split at ha
  ·rename_i hx
   rw [List.pairwise_cons] at hs
   have hi' : i ∈ l := by
    rcases List.mem_cons.1 hi with h | h
    ·subst h; simp at hx
    ·exact h
   rcases List.mem_cons.1 ha with h | h
   ·subst h; exact hs.1 i hi'
   ·exact ih hi' h hs.2
  ·simp at ha
theorem any_sound (hG : CtxOk P G) {ops : Array Oper} {md : Region.Mode} {rk : List Nat} {F : List (List Nat)} {L : Nat → Log} {e0 e' : Env} {Ws : List Nat} (hF : drawOk rk F 0 F ops.toList = true)
  (hap : ∀ (j : Nat) fr, j < ops.size → F[j]? = some fr → ∀ a ∈ fr, a < j ∧ Apart (L a) (L j)) (hW : ∀ o ∈ ops.toList, ∀ t ∈ opWrites G o, t ∈ Ws) (hWg : ∀ (j : Nat) (d : Nat), (ops[j]?).bind (fun o : Oper => o.dst) = some d → d ∈ Ws)
  (hQ : ∀ a' W' g', Pres Ws G.bxs e0 e' → St w0 T f0 G.n e' a' W' g' → Q .normal a' W') :
  ∀ (fuel : Nat) (listed : Array Bool) {f : Env} {a : Act} {W : World} {g : Gh}, St w0 T f0 G.n f a W g → Pres Ws G.bxs e0 f → listed.size = ops.size →
   (∀ (i : Nat) o d, listed.getD i true = true → ops[i]? = some o → d ∈ o.after → Region.binds .any d = true → listed.getD d.on false = true) →
   RunsTo G ops L ((List.range ops.size).filter fun i => !listed.getD i true) f e' → ((List.range ops.size).filter fun i => !listed.getD i true).length ≤ fuel →
   wpAny P md ops Q fuel listed a W := by
 obtain ⟨hFl, hFs⟩ := drawOk_spec hF
 have hready : ∀ (listed : Array Bool) i, i ∈ Region.ready md ops listed → i ∈ (List.range ops.size).filter fun i => !listed.getD i true := fun listed i hi => by
  obtain ⟨h1, o, h2, h3⟩ := mem_ready.1 hi
  simp only [List.mem_filter, List.mem_range]
  exact ⟨(Array.getElem?_eq_some_iff.1 h2).1, by rw [h1]; rfl⟩
 have hdone : ∀ (listed : Array Bool), listed.size = ops.size → Region.ready md ops listed = [] → ((List.range ops.size).filter fun i => !listed.getD i true) = [] := fun listed hsz hr => by
  have hno : ∀ (k i : Nat), mdRank rk md i = k → i ∉ (List.range ops.size).filter fun i => !listed.getD i true := by
   intro k
   induction k using Nat.strongRecOn with
   | ind k ih =>
    intro i hk hi
    simp only [List.mem_filter, List.mem_range, Bool.not_eq_true'] at hi
    have ho : ops[i]? = some ops[i] := Array.getElem?_eq_getElem hi.1
    have hrd : i ∈ Region.ready md ops listed := by
     refine mem_ready.2 ⟨hi.2, _, ho, fun d hd hb => ?_⟩
     have hiF : i < F.length := by rw [hFl]; simpa using hi.1
     have hFi : F[i]? = some (F[i]'hiF) := List.getElem?_eq_getElem _
     have he := (hFs i _ _ (by simp) hFi).1 d hd
     rw [Nat.zero_add] at he
     obtain ⟨hlt, hn⟩ := (edgeLt_spec he hiF).2 md hb
     have hn' : d.on < ops.size := by rw [hFl] at hn; simpa using hn
     cases hd2 : listed.getD d.on false with
     | true => rfl
     | false =>
      have hd3 : listed.getD d.on true = false := by
       have hlt' : d.on < listed.size := by omega
       simp only [Array.getD_eq_getD_getElem?, Array.getElem?_eq_getElem hlt', Option.getD_some] at hd2 ⊢
       exact hd2
      exact absurd (by simp only [List.mem_filter, List.mem_range]; exact ⟨hn', by rw [hd3]; rfl⟩) (ih _ (by rw [← hk]; exact hlt) d.on rfl)
    rw [hr] at hrd
    cases hrd
  cases hl : (List.range ops.size).filter fun i => !listed.getD i true with
  | nil => rfl
  | cons i l => exact absurd (by rw [hl]; exact List.mem_cons_self) (hno _ i rfl)
 intro fuel
 induction fuel with
 | zero =>
  intro listed f a W g h hp hsz hcl hrun hlen
  have hnil : ((List.range ops.size).filter fun i => !listed.getD i true) = [] := List.eq_nil_of_length_eq_zero (by omega)
  rw [hnil] at hrun
  have hrun' : f = e' := hrun
  subst hrun'
  refine ⟨?_, hQ _ _ _ hp h⟩
  cases hr : Region.ready md ops listed with
  | nil => rfl
  | cons i l =>
   have := hready listed i (by rw [hr]; exact List.mem_cons_self)
   rw [hnil] at this
   cases this
 | succ fuel ih =>
  intro listed f a W g h hp hsz hcl hrun hlen
  refine ⟨fun hr => ?_, fun i hi => ?_⟩
  ·rw [hdone listed hsz hr] at hrun
   have hrun' : f = e' := hrun
   subst hrun'
   exact hQ _ _ _ hp h
  ·have himem := hready listed i hi
   obtain ⟨i1, oi, i2, i3⟩ := mem_ready.1 hi
   have hin : i < ops.size := (Array.getElem?_eq_some_iff.1 i2).1
   have hFi : F[i]? = some (F[i]'(by rw [hFl]; simpa using hin)) := List.getElem?_eq_getElem _
   obtain ⟨o, g1, o1, o2, o3⟩ := hrun.pull himem fun b hb => by
    obtain ⟨hbi, hbm⟩ := takeWhile_lt himem hb
    rcases drawOk_anc hF i _ hFi b hbi with hm | hm
    ·exact (hap i _ hin hFi b hm).2
    ·exfalso
     simp only [List.mem_filter, List.mem_range, Bool.not_eq_true'] at hbm
     have key : ∀ {a j : Nat}, Anc ops a j → (∀ o d, ops[j]? = some o → d ∈ o.after → Region.binds .any d = true → listed.getD d.on false = true) → listed.getD a false = true := by
      intro a j hanc
      induction hanc with
      | base ho hd hb => intro hh; exact hh _ _ ho hd hb
      | step hA ho hd hb ihA =>
       intro hh
       have h1 := hh _ _ ho hd hb
       exact ihA fun o' d' ho' hd' hb' => hcl _ o' d' (getD_ft h1) ho' hd' hb'
     have := key hm fun o d ho hd hb => by
      rw [i2] at ho; injection ho with ho; subst ho
      exact i3 d hd (binds_any hb)
     have h2 := hbm.2
     rw [getD_ft this] at h2
     cases h2
   rw [i2] at o1
   injection o1 with o1
   subst o1
   have hfil : ((List.range ops.size).filter fun j => !(listed.setIfInBounds i true).getD j true) = ((List.range ops.size).filter fun j => !listed.getD j true).erase i := by
    have hnd : ((List.range ops.size).filter fun j => !listed.getD j true).Nodup := List.Pairwise.filter _ List.nodup_range
    rw [hnd.erase_eq_filter, List.filter_filter]
    apply List.filter_congr
    intro j hj
    by_cases hji : j = i
    ·subst hji
     have : (listed.setIfInBounds j true).getD j true = true := by
      simp only [Array.getD_eq_getD_getElem?, Array.getElem?_setIfInBounds]
      simp
      split <;> rfl
     rw [this]; simp
    ·rw [getD_set_ne true (fun hh => hji hh.symm)]
     have : (j != i) = true := by simpa using hji
     simp [this]
   unfold wpOp
   simp only [i2]
   have hs := stepOp_sound (K := wpAny P md ops Q fuel (listed.setIfInBounds i true)) (Q := Q) (c := some) (Ws := Ws) hG h (stepL_stepOp o2) (hW oi (by simpa using Array.mem_of_getElem? i2)) hWg fun e2 a2 W2 g2 hc hp2 h2 => by
    injection hc with hc
    subst hc
    refine ih _ h2 (hp.trans hp2) (by simpa using hsz) (fun j o' d hj ho' hd hb => ?_) (by rw [hfil]; exact o3) (by rw [hfil, List.length_erase_of_mem himem]; omega)
    have hj2 : listed.getD d.on false = true := by
     by_cases hji : j = i
     ·subst hji
      rw [i2] at ho'; injection ho' with ho'; subst ho'
      exact i3 d hd (binds_any hb)
     ·rw [getD_set_ne true (fun hh => hji hh.symm)] at hj
      exact hcl j o' d hj ho' hd hb
    exact getD_set_true hj2
   split
   ·rename_i hw; rw [if_pos hw] at hs; exact .inl hs
   ·rename_i hw; rw [if_neg hw] at hs; exact hs
theorem schedule_any {ops : Array Oper} {a : Act} {W : World} (m : Bool) (t : Nat) (h : ∀ md, wpAny P md ops Q ops.size (Array.replicate ops.size false) a W) : wpOps P ops Q (Region.schedule m ops t) a W := by
 unfold Region.schedule
 split
 ·exact wpAny_sound ops.size t _ a W (h _)
 ·exact wpAny_sound ops.size (t / 2) _ a W (h _)
theorem St.drew {n : Nat} {e : Env} {a : Act} {W : World} {g : Gh} (h : St w0 T f0 n e a W g) (k : Nat) : St w0 T f0 n e a { W with drawn := k } g :=
 h.move (X := fun _ => False) ⟨fun _ _ hf => ⟨hf, fun _ h => h⟩, fun _ _ hb _ => ⟨hb, rfl, fun _ h => h⟩⟩ (fun _ hx => hx.elim) (fun _ _ => rfl) rfl rfl rfl (Nat.le_refl _) (fun _ _ _ => rfl) h.ownNew h.fixLt (fun _ _ _ _ h => h)
theorem draw_sound (hG : CtxOk P G) {ops : Array Oper} {id : Nat} {F : List (List Nat)} {R : Type} {c : Env → Option R} {r : R} {Ws : List Nat} {e : Env} {a : Act} {W : World} {g : Gh} (h : St w0 T f0 G.n e a W g)
  {rk : List Nat} (hF : drawOk rk F 0 F ops.toList = true) (hr : runDraw G ops F ops.toList [] e c = some r) (hW : ∀ o ∈ ops.toList, ∀ t ∈ opWrites G o, t ∈ Ws) (hWg : ∀ (j : Nat) (d : Nat), (ops[j]?).bind (fun o : Oper => o.dst) = some d → d ∈ Ws)
  (hQ : ∀ e' a' W' g', c e' = some r → Pres Ws G.bxs e e' → St w0 T f0 G.n e' a' W' g' → Q .normal a' W') : (Code.region id ops true).wp P Q a W := by
 obtain ⟨L, e', -, h2, h3, h4⟩ := runDraw_spec (F := F) ops.toList [] F e (fun _ => ([], [])) (fun a y hy => by simp at hy) rfl rfl hr
 refine wp_region_draw fun t => schedule_any _ _ fun md => any_sound hG hF (fun j fr hj hf a ha => h4 j fr (Nat.zero_le _) (by simpa using hj) hf a ha) hW hWg (fun a' W' g' hp h' => hQ e' a' W' g' h3 hp h') ops.size _ (h.drew _) (.refl _ _ _) (by simp) (fun i o d hi ho => ?_) ?_ ?_
 ·have hlt : i < ops.size := (Array.getElem?_eq_some_iff.1 ho).1
  simp [hlt] at hi
 ·have : ((List.range ops.size).filter fun i => !(Array.replicate ops.size false).getD i true) = List.range' 0 ops.toList.length := by
   rw [List.filter_eq_self.2 ?_, List.range_eq_range']
   ·simp
   ·intro i hi
    have := List.mem_range.1 hi
    simp [this]
  rw [this]
  exact h2
 ·have := List.length_filter_le (fun i => !(Array.replicate ops.size false).getD i true) (List.range ops.size)
  rwa [List.length_range] at this
end
end Go.PM
