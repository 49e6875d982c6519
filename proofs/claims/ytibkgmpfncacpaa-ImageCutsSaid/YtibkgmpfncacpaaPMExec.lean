/- PM: code, sound. -/
import Derived.Test.YtibkgmpfncacpaaPMStep
import Derived.Tactics
namespace Go.PM
open Go

def toExit : Ex → Exit
  | .normal => .normal
  | .exit id => .exit id
  | .ret => .ret

section
variable {P : Program} {G : Ctx} {w0 : World} {T : Nat → Prop} {f0 : F0} {e : Env} {a : Act} {W : World} {g : Gh} {Q : Exit → Act → World → Prop}

theorem getD_some {A : Array Value} {d : Nat} {b : Bool} (h : A.getD d undef = .bool b) : A[d]? = some (.bool b) := by
  rw [Array.getD_eq_getD_getElem?] at h
  cases hd : A[d]? with
  | none => rw [hd] at h; cases h
  | some v => rw [hd] at h; simp at h; rw [h]

/-- One operation of a region. -/
theorem stepOp_sound {R : Type} (hG : CtxOk P G) {ops : Array Oper} {o : Oper} {c : Env → Option R} {r : R} {Ws : List Nat} (h : St w0 T f0 G.n e a W g) (hr : stepOp G ops o e c = some r)
    (hW : ∀ t ∈ opWrites G o, t ∈ Ws) (hWg : ∀ (j : Nat) (d : Nat), (ops[j]?).bind (fun o : Oper => o.dst) = some d → d ∈ Ws) {K : Act → World → Prop}
    (hK : ∀ e' a' W' g', c e' = some r → Pres Ws G.bxs e e' → St w0 T f0 G.n e' a' W' g' → K a' W') :
    if Region.wanted o (yielded ops a.tmps) = true then o.wp P a W K Q else K (a.put o.dst undef) W := by
  unfold stepOp at hr
  cases hd : dstOk G.n o.dst <;> simp only [hd, Bool.not_true, Bool.not_false, cond_true, cond_false] at hr
  · cases hr
  -- performed, or not
  have perform : ∀ e1, St w0 T f0 G.n e1 a W g → Pres Ws G.bxs e e1 → (opP G o).run e1 c = some r → o.wp P a W K Q := fun e1 h1 hp hr => by
    rw [Prog.run_eq] at hr
    cases he : (opP G o).run e1 some with
    | none => rw [he] at hr; cases hr
    | some e2 =>
      rw [he] at hr
      exact op_sound hG o h1 hd he fun a' W' g' h' => hK e2 a' W' g' hr (hp.trans ((Mono.pres _ _ _ (op_mono G o e1) he).mono hW)) h'
  have skip : ∀ e1, St w0 T f0 G.n e1 a W g → Pres Ws G.bxs e e1 → (put o.dst .undef .done).run e1 c = some r → K (a.put o.dst undef) W := fun e1 h1 hp hr => by
    rw [Prog.run_eq] at hr
    cases he : (put o.dst .undef .done).run e1 some with
    | none => rw [he] at hr; cases hr
    | some e2 =>
      rw [he] at hr
      have h2 := h1.putDst hd (pv := .undef) (v := undef) (fun d _ => rfl) (not_ptr (by simp) e1)
      have hm : Mono Ws G.bxs (put o.dst .undef .done) e1 := mono_put (fun d hd => hW d (by simp [opWrites, hd])) mono_done
      rw [← put_run he] at h2
      exact hK e2 _ _ _ hr (hp.trans (Mono.pres _ _ _ hm he)) h2
  cases hgd : o.guard with
  | none =>
    simp only [hgd] at hr
    rw [if_pos (by simp [Region.wanted, hgd])]
    exact perform e h (.refl _ _ _) hr
  | some jw =>
    obtain ⟨j, want⟩ := jw
    simp only [hgd] at hr
    split at hr
    · cases hr
    · rename_i d hdj
      have hs := h.slots d
      split at hr
      · rename_i he
        rw [he] at hs
        have hu : a.tmps.getD d undef = undef := hs
        have hy : yielded ops a.tmps j = none := by
          unfold yielded
          rw [hdj]
          simp only [Option.bind_some]
          rw [Array.getD_eq_getD_getElem?] at hu
          cases hd2 : a.tmps[d]? with
          | none => rfl
          | some v => rw [hd2] at hu; simp at hu; rw [hu]; rfl
        rw [if_neg (by simp [Region.wanted, hgd, hy])]
        exact skip e h (.refl _ _ _) hr
      · rename_i b tip he
        rw [he] at hs
        have hv : a.tmps.getD d undef = .bool b := bool_of_dat hs.dat
        have hy : yielded ops a.tmps j = some b := by
          unfold yielded
          rw [hdj]
          simp only [Option.bind_some, getD_some hv]
        have hset : ∀ b', b = b' → St w0 T f0 G.n (e.set (.slot d) (.val ⟨.bool, b', false⟩)) a W g := fun b' hb => by
          subst hb
          exact h.setSlot (by rw [hv]; exact ⟨rfl, rfl, fun hh => by simp at hh⟩) (not_ptr (by simp) e)
        have hpr : ∀ v, Pres Ws G.bxs e (e.set (.slot d) v) := fun v => Pres.setSlot (hWg j d hdj) v
        cases b <;> cases want <;> simp only [cond_true, cond_false] at hr
        · rw [if_pos (by simp [Region.wanted, hgd, hy])]
          exact perform _ (hset _ rfl) (hpr _) hr
        · rw [if_neg (by simp [Region.wanted, hgd, hy])]
          exact skip _ (hset _ rfl) (hpr _) hr
        · rw [if_neg (by simp [Region.wanted, hgd, hy])]
          exact skip _ (hset _ rfl) (hpr _) hr
        · rw [if_pos (by simp [Region.wanted, hgd, hy])]
          exact perform _ (hset _ rfl) (hpr _) hr
      · cases hr

theorem runOps_sound {R : Type} (hG : CtxOk P G) {ops : Array Oper} {c : Env → Option R} {r : R} {Ws : List Nat} (hWg : ∀ (j : Nat) (d : Nat), (ops[j]?).bind (fun o : Oper => o.dst) = some d → d ∈ Ws) : ∀ (l : List Oper) {e : Env} {a : Act} {W : World} {g : Gh}, St w0 T f0 G.n e a W g → runOps G ops l e c = some r →
    (∀ o ∈ l, ∀ t ∈ opWrites G o, t ∈ Ws) → (∀ e' a' W' g', c e' = some r → Pres Ws G.bxs e e' → St w0 T f0 G.n e' a' W' g' → Q .normal a' W') → wpList P ops Q l a W
  | [], e, a, W, g, h, hr, _, hQ => hQ e a W g hr (.refl _ _ _) h
  | o :: l, e, a, W, g, h, hr, hW, hQ => by
    simp only [runOps] at hr
    have := stepOp_sound (K := wpList P ops Q l) (Q := Q) (P := P) hG h hr (hW o List.mem_cons_self) hWg (fun e' a' W' g' hc hp h' =>
      runOps_sound hG hWg l h' hc (fun o' ho' => hW o' (List.mem_cons_of_mem _ ho')) fun e'' a'' W'' g'' hc' hp' h'' => hQ e'' a'' W'' g'' hc' (hp.trans hp') h'')
    unfold wpList
    split
    · rename_i hw; rw [if_pos hw] at this; exact .inl this
    · rename_i hw; rw [if_neg hw] at this; exact this

/-- Less is known of each place. -/
theorem St.weaken {n : Nat} (h : St w0 T f0 n e a W g) {e1 : Env} (hs : ∀ t v, SRep g W t (e (.slot t)) v → SRep g W t (e1 (.slot t)) v) (hb : ∀ i, BRep g W i (e (.box i)) → BRep g W i (e1 (.box i)))
    (hp : ∀ t i lo, e1 (.slot t) = .bptr i lo → (e1 (.box i)).isBox = true) : St w0 T f0 n e1 a W g where
  defers := h.defers
  tmps := h.tmps
  os := h.os
  tape := h.tape
  output := h.output
  size := h.size
  old := h.old
  ownNew := h.ownNew
  fixLt := h.fixLt
  fixOld := h.fixOld
  fixNew := h.fixNew
  nle := h.nle
  bxOld := h.bxOld
  ptr := hp
  slots := fun t => hs t _ (h.slots t)
  boxes := fun i => hb i (h.boxes i)

theorem SRep.clear {t : Nat} {pv : PV} {v : Value} (h : SRep g W t pv v) : SRep g W t pv.clear v := h.dat.slot t

theorem takeCells_rep {fix : Nat → Nat → Prop} {own : Nat → Option Lab} {W : World} : ∀ (ts : List (Ty × Bool)) (ds : List DV) (x : (cellsTy ts).D), takeCells ts ds = some x →
    (∀ vs, Cells fix W ds vs → Cells fix W (giveCells ts x) vs) ∧ ∀ (j : Nat) d', (giveCells ts x)[j]? = some d' → d'.tip = true → ∃ d, ds[j]? = some d ∧ d.tip = true ∧ d.t = d'.t
  | [], [], x, _ => ⟨fun vs h => h, fun j d' h => by simp [giveCells] at h⟩
  | [], _ :: _, _, h => by simp [takeCells] at h
  | (t, tip) :: ts, [], _, h => by simp [takeCells] at h
  | (t, tip) :: ts, d :: ds, x, h => by
    simp only [takeCells] at h
    split at h
    · rename_i y hy
      obtain ⟨tp, rfl⟩ := DV.as_eq hy
      split at h
      · cases h
      · rename_i htip
        split at h
        · rename_i z hz
          injection h with h
          subst h
          obtain ⟨h1, h2⟩ := takeCells_rep (fix := fix) (own := own) (W := W) ts ds z hz
          refine ⟨fun vs hc => ?_, fun j d' hj ht => ?_⟩
          · cases vs with
            | nil => exact hc
            | cons v vs => exact ⟨hc.1, h1 vs hc.2⟩
          · cases j with
            | zero =>
              simp only [giveCells, List.getElem?_cons_zero, Option.some.injEq] at hj
              subst hj
              refine ⟨_, rfl, ?_, rfl⟩
              simp only at ht ⊢
              subst ht
              cases tp
              · exact absurd ⟨rfl, rfl⟩ htip
              · rfl
            | succ j => simpa [giveCells] using h2 j d' (by simpa [giveCells] using hj) ht
        · cases h
    · cases h

theorem LD.take_slot {s : Nat} {t : Ty} {tip : Bool} {x : t.D} (h : (LD.val s t tip).take e = some x) {v : Value} (hs : SRep g W s (e (.slot s)) v) : SRep g W s (.val ⟨t, x, tip⟩) v := by
  simp only [LD.take] at h
  split at h
  · rename_i d hd
    rw [hd] at hs
    split at h
    · cases h
    · rename_i htip
      obtain ⟨tp, rfl⟩ := DV.as_eq h
      refine ⟨hs.1, hs.2.1, fun ht => hs.2.2 ?_⟩
      simp only at ht ⊢
      subst ht
      cases tp
      · exact absurd ⟨rfl, rfl⟩ htip
      · rfl
  · rename_i d hd
    rw [hd] at hs
    obtain ⟨tp, rfl⟩ := DV.as_eq h
    exact ⟨hs.1, hs.2.1, fun _ => hs.2.2.tip⟩
  · cases h

theorem give_box_slot {j t : Nat} {B : TypeId} {ts : List (Ty × Bool)} {E : Env} (x : (LD.box j B ts).ty.D) : (LD.give (.box j B ts) x E) (.slot t) = E (.slot t) := by
  cases hE : E (.box j) <;> simp [LD.give, hE, Env.set]
theorem give_box_other {i j : Nat} {B : TypeId} {ts : List (Ty × Bool)} {E : Env} (x : (LD.box j B ts).ty.D) (h : ¬ i = j) : (LD.give (.box j B ts) x E) (.box i) = E (.box i) := by
  cases hE : E (.box j) <;> simp [LD.give, hE, Env.set, h]

/-- What is carried is given: at each place as it was, or no more than what is there. -/
theorem give_places {e' : Env} : ∀ (L : List LD) (s : (liveTy L).D) (E : Env), takeLive L e' = some s →
    (∀ t, (giveLive L s E) (.slot t) = E (.slot t) ∨ ((∀ i lo, (giveLive L s E) (.slot t) ≠ .bptr i lo) ∧ ∀ g W v, SRep g W t (e' (.slot t)) v → SRep g W t ((giveLive L s E) (.slot t)) v)) ∧
    (∀ i, ((giveLive L s E) (.box i) = E (.box i) ∧ (L.any (LD.isBox i) = true → ∀ T cs v, E (.box i) ≠ .box T cs v)) ∨ ((∃ T cs v, E (.box i) = .box T cs v) ∧ (∃ T cs v, (giveLive L s E) (.box i) = .box T cs v) ∧ L.any (LD.isBox i) = true ∧ ∀ g W, BRep g W i (e' (.box i)) → BRep g W i ((giveLive L s E) (.box i))))
  | [], s, E, _ => ⟨fun t => .inl rfl, fun i => .inl ⟨rfl, fun h => by simp at h⟩⟩
  | d :: L, s, E, h => by
    simp only [takeLive] at h
    split at h
    · rename_i x hx
      split at h
      · rename_i y hy
        injection h with h
        subst h
        simp only [giveLive]
        obtain ⟨h1, h2⟩ := give_places L y (d.give x E) hy
        cases d with
        | val s t tip =>
          refine ⟨fun t' => ?_, fun i => ?_⟩
          · rcases h1 t' with k | k
            · by_cases hst : t' = s
              · subst hst
                refine .inr ⟨fun i lo hh => ?_, fun g W v hv => ?_⟩
                · rw [k] at hh; simp [LD.give, Env.set] at hh
                · rw [k]; simp only [LD.give, Env.set, if_true]; exact LD.take_slot hx hv
              · refine .inl (k.trans ?_); simp [LD.give, Env.set, hst]
            · exact .inr k
          · have hb : (LD.give (.val s t tip) x E) (.box i) = E (.box i) := by simp [LD.give, Env.set]
            have := h2 i
            rw [hb] at this
            simpa [LD.isBox] using this
        | agg s t =>
          refine ⟨fun t' => ?_, fun i => ?_⟩
          · rcases h1 t' with k | k
            · by_cases hst : t' = s
              · subst hst
                refine .inr ⟨fun i lo hh => ?_, fun g W v hv => ?_⟩
                · rw [k] at hh; simp [LD.give, Env.set] at hh
                · rw [k]
                  simp only [LD.give, Env.set, if_true]
                  simp only [LD.take] at hx
                  split at hx
                  · rename_i cs hcs
                    rw [hcs] at hv
                    split at hx
                    · rename_i z hz
                      injection hx with hx
                      subst hx
                      obtain ⟨vs, e1, e2, -⟩ := hv
                      exact ⟨vs, e1, Cells.split _ _ _ (Ty.build_all hz e2), split_nils _ _ _⟩
                    · cases hx
                  · cases hx
              · refine .inl (k.trans ?_); simp [LD.give, Env.set, hst]
            · exact .inr k
          · have hb : (LD.give (.agg s t) x E) (.box i) = E (.box i) := by simp [LD.give, Env.set]
            have := h2 i
            rw [hb] at this
            simpa [LD.isBox] using this
        | box j B ts =>
          have hsl : ∀ t', (LD.give (.box j B ts) x E) (.slot t') = E (.slot t') := fun t' => give_box_slot _
          refine ⟨fun t' => ?_, fun i => ?_⟩
          · have := h1 t'
            rw [hsl] at this
            exact this
          · by_cases hij : i = j
            · subst hij
              have hany : (LD.box i B ts :: L).any (LD.isBox i) = true := by simp [LD.isBox]
              cases hE : E (.box i) with
              | box T0 cs0 v0 =>
                have hgive : (LD.give (.box i B ts) x E) (.box i) = .box B (giveCells ts x) (v0 + 1) := by
                  simp [LD.give, hE, Env.set]
                rcases h2 i with ⟨k1, k2⟩ | ⟨k1, k2, k3, k4⟩
                · rw [k1, hgive]
                  refine .inr ⟨⟨_, _, _, rfl⟩, ⟨_, _, _, rfl⟩, hany, fun g W hb => ?_⟩
                  simp only [LD.take] at hx
                  split at hx
                  · rename_i T' cs' v' he'
                    rw [he'] at hb
                    split at hx
                    · rename_i hB
                      subst hB
                      obtain ⟨vs, q1, q2, q3, q4, q5⟩ := hb
                      obtain ⟨r1, r2⟩ := takeCells_rep (fix := g.fix) (own := g.own) (W := W) ts cs' x hx
                      refine ⟨vs, q1, q2, q3, r1 _ q4, fun jj d' hd ht => ?_⟩
                      obtain ⟨d, s1, s2, s3⟩ := r2 jj d' hd ht
                      obtain ⟨u, u1, u2⟩ := q5 jj d s1 s2
                      exact ⟨u, u1, by rw [← s3]; exact u2⟩
                    · cases hx
                  · cases hx
                · exact .inr ⟨⟨_, _, _, rfl⟩, k2, hany, k4⟩
              | _ =>
                have hgive : (LD.give (.box i B ts) x E) (.box i) = E (.box i) := by simp [LD.give, hE]
                have := h2 i
                rw [hgive, hE] at this
                rcases this with ⟨k1, _⟩ | ⟨⟨_, _, _, k1⟩, _⟩
                · exact .inl ⟨k1, fun _ T cs v hh => by cases hh⟩
                · cases k1
            · have hgive : (LD.give (.box j B ts) x E) (.box i) = E (.box i) := give_box_other _ hij
              have := h2 i
              rw [hgive] at this
              have hij' : (i == j) = false := by simpa using hij
              simpa [LD.isBox, hij'] using this
      · cases h
    · cases h

theorem drop_box {Ws : List Nat} (e : Env) {i : Nat} (h : i ∉ Ws) : drop Ws e (.box i) = e (.box i) := by
  simp [drop, h]

/-- At a loop's head: what is carried, and of the rest what nothing in the loop turns. -/
theorem St.head {n : Nat} {Ws bxs : List Nat} {L : List LD} {e0 : Env} (h : St w0 T f0 n e a W g) (hp : Pres Ws bxs e0 e) (hsb : sameBoxes bxs Ws L e0 e = true) {s : (liveTy L).D} (ht : takeLive L e = some s) :
    St w0 T f0 n (giveLive L s (drop Ws e0)) a W g := by
  obtain ⟨h1, h2⟩ := give_places L s (drop Ws e0) ht
  have hsame : ∀ i, i ∉ Ws → L.any (LD.isBox i) = false → e (.box i) = e0 (.box i) := fun i hi hl => by
    rcases hp.box i hi with hb | ⟨hb1, hb2, hb3, hb4⟩
    · exact hb
    · simp only [sameBoxes, List.all_eq_true, Bool.or_eq_true, beq_iff_eq] at hsb
      rcases hsb i hb1 with (hw | hw) | hw
      · exact absurd (by simpa using hw) hi
      · rw [hl] at hw; cases hw
      · omega
  have hbox : ∀ i, BRep g W i (e (.box i)) → BRep g W i ((giveLive L s (drop Ws e0)) (.box i)) := fun i hb => by
    rcases h2 i with ⟨k1, k2⟩ | ⟨_, _, _, k4⟩
    · rw [k1]
      by_cases hi : i ∈ Ws
      · simp [drop, hi]; trivial
      · rw [drop_box e0 hi] at k2 ⊢
        cases hl : L.any (LD.isBox i) with
        | false => rw [← hsame i hi hl]; exact hb
        | true =>
          cases he : e0 (.box i) with
          | box T cs v => exact absurd he (k2 hl T cs v)
          | frz T cs v =>
            rcases hp.box i hi with hb1 | ⟨_, hb2, _, _⟩
            · rw [← he, ← hb1]; exact hb
            · rw [he] at hb2; cases hb2
          | _ => trivial
    · exact k4 g W hb
  have hslot : ∀ t, t ∉ Ws → ∀ p, e0 (.slot t) = p → KeepS Ws p (e (.slot t)) := fun t ht p he => by rw [← he]; exact hp.slot t ht
  refine h.weaken (fun t v hv => ?_) hbox (fun t i lo hb => ?_)
  · rcases h1 t with k | ⟨_, k⟩
    · rw [k]
      simp only [drop]
      split
      · trivial
      · rename_i hw
        have hw' : t ∉ Ws := by simpa using hw
        split
        · rename_i i lo he0
          split
          · trivial
          · rename_i hi
            rcases hslot t hw' _ he0 with hk | ⟨_, i', lo', hk, hi'⟩
            · rw [clear_bptr hk] at hv; exact hv
            · cases hk; exact absurd (by simpa using hi') hi
        · rename_i p hne
          rcases hp.slot t hw' with hk | ⟨_, i', lo', hk, _⟩
          · rw [← hk]; exact hv.clear
          · exact absurd hk (by simpa using hne i' lo')
    · exact k g W v hv
  · rcases h1 t with k | ⟨k, _⟩
    · rw [k] at hb
      simp only [drop] at hb
      split at hb
      · cases hb
      · rename_i hw
        have hw' : t ∉ Ws := by simpa using hw
        split at hb
        · rename_i i' lo' he0
          split at hb
          · cases hb
          · rename_i hi
            cases hb
            have hi' : i ∉ Ws := by simpa using hi
            have hbe : e (.slot t) = .bptr i lo := by
              rcases hslot t hw' _ he0 with hk | ⟨_, i'', lo'', hk, hi''⟩
              · exact clear_bptr hk
              · cases hk; exact absurd hi'' hi'
            have hisb := h.ptr t i lo hbe
            rcases h2 i with ⟨k1, k2⟩ | ⟨_, ⟨T', cs', v', k3⟩, _, _⟩
            · rw [k1, drop_box e0 hi']
              rcases hp.box i hi' with hb2 | ⟨_, hb2, _, _⟩
              · rw [← hb2]; exact hisb
              · exact isBox_of_isVar hb2
            · rw [k3]; rfl
        · rename_i p hne
          cases hes : e0 (.slot t) <;> rw [hes] at hb <;> simp [PV.clear] at hb
          exact absurd hes (by simpa using hne _ _)
    · exact absurd hb (k i lo)

/-- From ahead of a loop to its head. -/
theorem pres_head {Ws bxs : List Nat} {L : List LD} {e0 : Env} {s : (liveTy L).D} (hok : liveOk bxs Ws L = true) : Pres Ws bxs e0 (giveLive L s (drop Ws e0)) := by
  have key : ∀ (L : List LD) (s : (liveTy L).D) (E : Env), liveOk bxs Ws L = true → Pres Ws bxs E (giveLive L s E) := by
    intro L
    induction L with
    | nil => intro s E _; exact .refl _ _ _
    | cons d L ih =>
      intro s E hok
      simp only [liveOk, List.all_cons, Bool.and_eq_true] at hok
      simp only [giveLive]
      refine Pres.trans ?_ (ih _ _ (by simpa [liveOk] using hok.2))
      cases d with
      | val s t tip => exact Pres.setSlot (by simpa using hok.1) _
      | agg s t => exact Pres.setSlot (by simpa using hok.1) _
      | box i B ts =>
        simp only [Bool.and_eq_true] at hok
        refine ⟨fun t _ => .inl ?_, fun j hj => ?_⟩
        · rw [give_box_slot]
        · by_cases hji : j = i
          · subst hji
            cases hE : E (.box j) with
            | box T0 cs0 v0 =>
              refine .inr ⟨by simpa using hok.1.1, rfl, ?_, ?_⟩
              · simp [LD.give, hE, Env.set, PV.isBox]
              · simp [LD.give, hE, Env.set, verOf]
            | _ => exact .inl (by simp [LD.give, hE])
          · exact .inl (give_box_other _ hji)
  refine Pres.trans ?_ (key L s (drop Ws e0) hok)
  refine ⟨fun t ht => ?_, fun i hi => .inl (drop_box e0 hi)⟩
  simp only [drop]
  rw [if_neg (by simpa using ht)]
  split
  · rename_i i lo he
    split
    · rename_i hi; exact .inr ⟨rfl, i, lo, he, by simpa using hi⟩
    · rw [he]; exact .inl rfl
  · exact .inl (PV.clear_clear _)
end

end Go.PM
