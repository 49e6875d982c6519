/- The laws on images as bytes, plain: there and back. -/
import Derived.Test.YtibkgmpfncacpaaPliL5G
import Derived.Test.YtibkgmpfncacpaaPliWf
import Derived.KernelRfl
namespace Go.Pli
open Go Go.PM

def Fwd {α : Type} (f : Rd → Option (α × Rd × Unit)) (e : α → List Int) (x : α) : Prop :=
  bytesB (e x) = true ∧ ∀ rest, bytesB rest = true → f (e x ++ rest, false, ()) = some (x, (rest, false, ()), ())
def Inv {α : Type} (f : Rd → Option (α × Rd × Unit)) (e : α → List Int) (Q : α → Prop) : Prop :=
  ∀ l b, bytesB l = true → ∃ x l' bad, f (l, b, ()) = some (x, (l', bad, ()), ()) ∧ bytesB l' = true ∧ (bad = true ∨ (b = false ∧ bad = false ∧ l = e x ++ l' ∧ Q x))

/-! ### numbers and instructions -/
theorem fwd_get {v n : Int} (h0 : 0 ≤ v) (h1 : v ≤ n) (hn : n < 4294967296) : Fwd (fun r => getN r n) encN v := by
  refine ⟨enc_bytes (by omega), fun rest hr => ?_⟩
  have := get_enc (v := v.toNat) (n := n) (rest := rest) (by omega) hr (by omega) (by omega)
  rw [show ((v.toNat : Nat) : Int) = v by omega] at this
  exact this
theorem inv_get {n : Int} (h0 : 0 ≤ n) (hn : n < 9223372036854775808) : Inv (fun r => getN r n) encN (fun v => 0 ≤ v ∧ v ≤ n) := by
  intro l b hb
  cases b with
  | true => exact ⟨0, l, true, rfl, hb, .inl rfl⟩
  | false =>
    obtain ⟨v, l', bad, g1, g2, g3⟩ := get_inv hb h0 hn
    exact ⟨v, l', bad, g1, g2, g3.imp id fun ⟨a, b, c, _, d⟩ => ⟨rfl, a, d, b, c⟩⟩
theorem fwd_iget {i : Ins} (h : igood i = true) : Fwd igetN encI i := by
  unfold Fwd
  rw [encI_ienc]
  exact ⟨ienc_bytes h, fun rest hr => getN_ienc h hr⟩
theorem iget_bad (l : List Int) : igetN (l, true, ()) = some ((0, 0, 0, ()), (l, true, ()), ()) := by
  unfold igetN
  rw [get_bad]
  simp only [Option.bind_some]
  have h0 : ¬ iargs 0 > 0 := by decide
  have h1 : ¬ iargs 0 > 1 := by decide
  rw [decide_eq_false h0, decide_eq_false h1]
  rfl
theorem inv_iget : Inv igetN encI (fun _ => True) := by
  intro l b hb
  cases b with
  | true => exact ⟨_, l, true, iget_bad l, hb, .inl rfl⟩
  | false =>
    obtain ⟨i, l', bad, g1, g2, g3⟩ := iget_inv hb
    exact ⟨i, l', bad, g1, g2, g3.imp id fun ⟨a, b, _⟩ => ⟨rfl, a, by rw [encI_ienc]; exact b, trivial⟩⟩
theorem fwd_long {n : Int} (h0 : -2147483648 ≤ n) (h1 : n ≤ 2147483647) : Fwd glongN encZ n :=
  ⟨enc_bytes (Nat.lt_trans (zg_lt h0 h1) (by omega)), fun _ hr => glong_enc h0 h1 hr⟩
theorem inv_long : Inv glongN encZ (fun n => -2147483648 ≤ n ∧ n ≤ 2147483647) := by
  intro l b hb
  cases b with
  | true => exact ⟨0, l, true, glong_bad l, hb, .inl rfl⟩
  | false =>
    obtain ⟨v, l', bad, g1, g2, g3⟩ := get_inv (n := 4294967295) hb (by omega) (by omega)
    rcases g3 with h | ⟨h, v0, v1, _, e⟩
    · subst h
      obtain ⟨a0, a1⟩ := getN_le (by omega) g1
      simp only at a0 a1
      have g1' : getN (l, false, ()) (4294967295 : Int) = some (((v.toNat : Nat) : Int), (l', true, ()), ()) := by rw [g1, show ((v.toNat : Nat) : Int) = v by omega]
      exact ⟨unz v.toNat, l', true, glong_of g1' (by omega), g2, .inl rfl⟩
    · subst h
      have g1' : getN (l, false, ()) (4294967295 : Int) = some (((v.toNat : Nat) : Int), (l', false, ()), ()) := by rw [g1, show ((v.toNat : Nat) : Int) = v by omega]
      obtain ⟨z1, z2, z3⟩ := zg_unz (v := v.toNat) (by omega)
      refine ⟨unz v.toNat, l', false, glong_of g1' (by omega), g2, .inr ⟨rfl, rfl, ?_, z2, z3⟩⟩
      rw [encZ_zg, z1]
      exact e

/-! ### types -/
theorem fwd_type {t : Tp} (h : ityp t = true) : Fwd getType encT t := by
  obtain ⟨⟨t1, t2⟩, ⟨t3, t4⟩, t5⟩ := typ_range h
  obtain ⟨k, c, u⟩ := t
  simp only at t1 t2 t3 t4 t5
  have f1 := fwd_get (v := k) (n := 5) t1 t2 (by omega)
  have f2 := fwd_get (v := c) (n := 7) t3 t4 (by omega)
  unfold Fwd getType encT
  simp only
  by_cases h3 : k = 3
  · subst h3
    have hb : bytesB (encN 3 ++ encN c) = true := by rw [bytesB_append, f1.1, f2.1]; rfl
    refine ⟨hb, fun rest hr => ?_⟩
    have e1 := f1.2 (encN c ++ rest) (by rw [bytesB_append, f2.1, hr]; rfl)
    have e2 := f2.2 rest hr
    simp only at e1 e2
    show (getN ((encN 3 ++ encN c) ++ rest, false, ()) 5).bind _ = _
    rw [List.append_assoc, e1]
    simp only [Option.bind_some]
    show (getN (encN c ++ rest, false, ()) 7).bind _ = _
    rw [e2]
    rfl
  · have hk : (k == 3) = false := by simpa using h3
    have hc := t5 h3
    subst hc
    simp only [hk, cond_false, List.append_nil]
    refine ⟨f1.1, fun rest hr => ?_⟩
    have e1 := f1.2 rest hr
    show (getN (encN k ++ rest, false, ()) 5).bind _ = _
    simp only at e1
    rw [e1]
    simp only [Option.bind_some, hk, cond_false]
theorem inv_type : Inv getType encT (fun _ => True) := by
  intro l b hb
  obtain ⟨k, l1, b1, g1, g2, g3⟩ := inv_get (n := 5) (by omega) (by omega) l b hb
  obtain ⟨c, l2, b2, g4, g5, g6⟩ := inv_get (n := 7) (by omega) (by omega) l1 b1 g2
  simp only at g1 g4
  unfold getType
  rw [g1]
  simp only [Option.bind_some]
  by_cases h3 : k = 3
  · subst h3
    refine ⟨(3, c, ()), l2, b2, ?_, g5, g6.imp id fun ⟨e1, e2, e3, _⟩ => ?_⟩
    · show (getN (l1, b1, ()) 7).bind _ = _
      rw [g4]; rfl
    · subst e1
      rcases g3 with h | ⟨a1, _, a3, _⟩
      · cases h
      · refine ⟨a1, e2, ?_, trivial⟩
        rw [a3, e3]
        show encN 3 ++ (encN c ++ l2) = (encN 3 ++ encN c) ++ l2
        rw [List.append_assoc]
  · have hk : (k == 3) = false := by simpa using h3
    refine ⟨(k, 0, ()), l1, b1, by rw [hk]; rfl, g2, g3.imp id fun ⟨a1, a2, a3, _⟩ => ⟨a1, a2, ?_, trivial⟩⟩
    unfold encT
    simp only [hk, cond_false, List.append_nil]
    exact a3

/-! ### rows -/
theorem fwd_rep {α : Type} {f : Rd → Option (α × Rd × Unit)} {e : α → List Int} : ∀ {l : List α}, (∀ x ∈ l, Fwd f e x) → Fwd (repO f l.length) (encR e) l
  | [], _ => ⟨rfl, fun _ _ => rfl⟩
  | x :: l, h => by
    have hx := h x (by simp)
    have ih := fwd_rep (l := l) fun y hy => h y (by simp [hy])
    refine ⟨by simp only [encR]; rw [bytesB_append, hx.1, ih.1]; rfl, fun rest hr => ?_⟩
    simp only [encR, List.length_cons, repO, List.append_assoc]
    rw [hx.2 _ (by rw [bytesB_append, ih.1, hr]; rfl)]
    simp only [Option.bind_some]
    rw [ih.2 rest hr]
    rfl
theorem inv_rep {α : Type} {f : Rd → Option (α × Rd × Unit)} {e : α → List Int} {Q : α → Prop} (hf : Inv f e Q) : ∀ n, Inv (repO f n) (encR e) (fun l => l.length = n ∧ ∀ x ∈ l, Q x)
  | 0 => fun l b hb => ⟨[], l, b, rfl, hb, by cases b <;> simp [encR]⟩
  | n + 1 => fun l b hb => by
    obtain ⟨x, l1, b1, g1, g2, g3⟩ := hf l b hb
    obtain ⟨xs, l2, b2, g4, g5, g6⟩ := inv_rep hf n l1 b1 g2
    refine ⟨x :: xs, l2, b2, ?_, g5, g6.imp id fun ⟨e1, e2, e3, e4, e5⟩ => ?_⟩
    · simp only [repO]
      rw [g1]
      simp only [Option.bind_some]
      rw [g4]
      rfl
    · subst e1
      rcases g3 with h | ⟨a1, _, a3, a4⟩
      · cases h
      · refine ⟨a1, e2, ?_, by simp [e4], fun y hy => ?_⟩
        · rw [a3, e3]; simp [encR]
        · rcases List.mem_cons.1 hy with rfl | hy
          · exact a4
          · exact e5 y hy
def encRow {α : Type} (e : α → List Int) (l : List α) : List Int := enc l.length ++ encR e l
theorem fwd_row {α : Type} {f : Rd → Option (α × Rd × Unit)} {e : α → List Int} {m : Int} {l : List α} (hl : (l.length : Int) ≤ m) (hm : m < 4294967296) (h : ∀ x ∈ l, Fwd f e x) : Fwd (fun r => getRow f r m) (encRow e) l := by
  have f1 := fwd_get (v := (l.length : Int)) (n := m) (by omega) hl hm
  have f2 := fwd_rep h
  refine ⟨?_, fun rest hr => ?_⟩
  · unfold encRow
    rw [bytesB_append, f2.1]
    have := f1.1
    unfold encN at this
    rw [Int.toNat_natCast] at this
    rw [this]; rfl
  · unfold getRow encRow
    have e1 := f1.2 (encR e l ++ rest) (by rw [bytesB_append, f2.1, hr]; rfl)
    unfold encN at e1
    simp only [Int.toNat_natCast] at e1
    show (getN ((enc l.length ++ encR e l) ++ rest, false, ()) m).bind _ = _
    rw [List.append_assoc, e1]
    simp only [Option.bind_some, Int.toNat_natCast]
    exact f2.2 rest hr
theorem inv_row {α : Type} {f : Rd → Option (α × Rd × Unit)} {e : α → List Int} {Q : α → Prop} {m : Int} (h0 : 0 ≤ m) (hm : m < 4294967296) (hf : Inv f e Q) : Inv (fun r => getRow f r m) (encRow e) (fun l => ∀ x ∈ l, Q x) := by
  intro l b hb
  obtain ⟨n, l1, b1, g1, g2, g3⟩ := inv_get (n := m) h0 (by omega) l b hb
  obtain ⟨xs, l2, b2, g4, g5, g6⟩ := inv_rep hf n.toNat l1 b1 g2
  refine ⟨xs, l2, b2, ?_, g5, g6.imp id fun ⟨e1, e2, e3, e4, e5⟩ => ?_⟩
  · show (getN (l, b, ()) m).bind _ = _
    simp only at g1
    rw [g1]
    exact g4
  · subst e1
    rcases g3 with h | ⟨a1, _, a3, a4, a5⟩
    · cases h
    · refine ⟨a1, e2, ?_, e5⟩
      unfold encRow
      rw [a3, e3, e4, List.append_assoc]
      rfl
theorem getTypes_row {m : Int} (hm : m ≤ 1000) (r : Rd) : getTypes r m = getRow getType r m := by unfold getTypes; rw [decide_eq_true hm]; rfl
theorem getNums_row {c m : Int} (hc : c ≤ 1000) (r : Rd) : getNums r c m = getRow (fun r => getN r m) r c := by unfold getNums; rw [decide_eq_true hc]; rfl
theorem fwd_types {m : Int} {l : List Tp} (hm : m ≤ 1000) (h : itypes l m = true) : Fwd (fun r => getTypes r m) encTs l := by
  obtain ⟨h1, h2⟩ := types_of h
  have := fwd_row (f := getType) (e := encT) h1 (by omega) fun t ht => fwd_type (h2 t ht)
  refine ⟨this.1, fun rest hr => ?_⟩
  show getTypes _ m = _
  rw [getTypes_row hm]
  exact this.2 rest hr
theorem inv_types {m : Int} (h0 : 0 ≤ m) (hm : m ≤ 1000) : Inv (fun r => getTypes r m) encTs (fun _ => True) := by
  intro l b hb
  obtain ⟨x, l', bad, g1, g2, g3⟩ := inv_row (m := m) h0 (by omega) inv_type l b hb
  refine ⟨x, l', bad, ?_, g2, g3.imp id fun ⟨a, b, c, _⟩ => ⟨a, b, c, trivial⟩⟩
  show getTypes _ m = _
  rw [getTypes_row hm]
  exact g1
theorem fwd_nums {c m : Int} {l : List Int} (hc : c ≤ 1000) (hm : m < 4294967296) (h : inums l c m = true) : Fwd (fun r => getNums r c m) encNs l := by
  obtain ⟨h1, h2⟩ := nums_of h
  have := fwd_row (f := fun r => getN r m) (e := encN) h1 (by omega) fun t ht => fwd_get (h2 t ht).1 (h2 t ht).2 hm
  refine ⟨this.1, fun rest hr => ?_⟩
  show getNums _ c m = _
  rw [getNums_row hc]
  exact this.2 rest hr
theorem inv_nums {c m : Int} (h0 : 0 ≤ c) (hc : c ≤ 1000) (hm0 : 0 ≤ m) (hm : m < 4294967296) : Inv (fun r => getNums r c m) encNs (fun _ => True) := by
  intro l b hb
  obtain ⟨x, l', bad, g1, g2, g3⟩ := inv_row (m := c) h0 (by omega) (inv_get (n := m) hm0 (by omega)) l b hb
  refine ⟨x, l', bad, ?_, g2, g3.imp id fun ⟨a, b, c, _⟩ => ⟨a, b, c, trivial⟩⟩
  show getNums _ c m = _
  rw [getNums_row hc]
  exact g1

/-! ### one behind another -/
theorem fwd_step {α β : Type} {f : Rd → Option (α × Rd × Unit)} {e : α → List Int} {x : α} (hf : Fwd f e x) {s : List Int} (hs : bytesB s = true) {g : α × Rd × Unit → Option β} {y : Option β}
    (h : g (x, (s, false, ()), ()) = y) : (f (e x ++ s, false, ())).bind g = y := by
  rw [hf.2 s hs]
  exact h
/-- What has been read is what had been written, or all is lost. -/
structure Got {α : Type} (o : Option (α × Rd × Unit)) (l : List Int) (b : Bool) (C : α → List Int → Prop) : Prop where
  ex : ∃ x l' bad, o = some (x, (l', bad, ()), ()) ∧ bytesB l' = true ∧ (bad = true ∨ (b = false ∧ bad = false ∧ C x l'))

theorem inv_step {α β : Type} {f : Rd → Option (α × Rd × Unit)} {e : α → List Int} {Q : α → Prop} (hf : Inv f e Q) {l : List Int} {b : Bool} (hb : bytesB l = true) {g : α × Rd × Unit → Option (β × Rd × Unit)} {C : β → List Int → Prop}
    (h : ∀ x l' bad, bytesB l' = true → ∃ y l2 bad2, g (x, (l', bad, ()), ()) = some (y, (l2, bad2, ()), ()) ∧ bytesB l2 = true ∧ (bad2 = true ∨ (bad = false ∧ bad2 = false ∧ (Q x → l = e x ++ l' → C y l2)))) :
    ∃ y l2 bad2, (f (l, b, ())).bind g = some (y, (l2, bad2, ()), ()) ∧ bytesB l2 = true ∧ (bad2 = true ∨ (b = false ∧ bad2 = false ∧ C y l2)) := by
  obtain ⟨x, l', bad, g1, g2, g3⟩ := hf l b hb
  obtain ⟨y, l2, bad2, h1, h2, h3⟩ := h x l' bad g2
  refine ⟨y, l2, bad2, by rw [g1]; exact h1, h2, ?_⟩
  rcases h3 with h3 | ⟨h3, h4, h5⟩
  · exact .inl h3
  · rcases g3 with g3 | ⟨a1, a2, a3, a4⟩
    · rw [g3] at h3; cases h3
    · exact .inr ⟨a1, h4, h5 a4 a3⟩

theorem fwd_method {x : Mt} (h : imethod x = true) : Fwd getMethod encM x := by
  obtain ⟨_, _, hret, ⟨x4, hgood⟩, x5, x6, _⟩ := mth_of h
  have hm := h
  simp only [imethod, Bool.and_eq_true] at hm
  obtain ⟨hm1, hm2, _, _, _, _, _, hm7⟩ := hm
  have f1 := fwd_types (m := 4) (by omega) hm1
  have f2 := fwd_types (m := 8) (by omega) hm2
  have f3 := fwd_type hret
  have f4 := fwd_row (f := igetN) (e := encI) (m := 64) (l := x.2.2.2.1) (by omega) (by omega) fun i hi => fwd_iget (hgood i hi)
  have f5 := fwd_get (n := 8) x5.1 x5.2 (by omega)
  have f6 := fwd_get (n := 4096) x6.1 x6.2 (by omega)
  have f7 := fwd_nums (c := 64) (m := 4096) (by omega) (by omega) hm7
  have he : encM x = encTs x.1 ++ (encTs x.2.1 ++ (encT x.2.2.1 ++ (encRow encI x.2.2.2.1 ++ (encN x.2.2.2.2.1 ++ (encN x.2.2.2.2.2.1 ++ encNs x.2.2.2.2.2.2.1))))) := by
    unfold encM encRow
    simp only [List.append_assoc]
  have hbytes : ∀ rest, bytesB rest = true → bytesB (encTs x.2.1 ++ (encT x.2.2.1 ++ (encRow encI x.2.2.2.1 ++ (encN x.2.2.2.2.1 ++ (encN x.2.2.2.2.2.1 ++ (encNs x.2.2.2.2.2.2.1 ++ rest)))))) = true := fun rest hr => by
    simp only [bytesB_append, f2.1, f3.1, f4.1, f5.1, f6.1, f7.1, hr, Bool.and_self]
  have hb2 := fun rest (hr : bytesB rest = true) => hbytes rest hr
  refine ⟨by rw [he]; simp only [bytesB_append, f1.1, f2.1, f3.1, f4.1, f5.1, f6.1, f7.1, Bool.and_self], fun rest hr => ?_⟩
  rw [he]
  simp only [List.append_assoc]
  unfold getMethod
  refine fwd_step f1 (hbytes rest hr) (fwd_step f2 ?_ (fwd_step f3 ?_ (fwd_step f4 ?_ (fwd_step f5 ?_ (fwd_step f6 ?_ (fwd_step f7 hr rfl))))))
  all_goals simp only [bytesB_append, f3.1, f4.1, f5.1, f6.1, f7.1, hr, Bool.and_self]
theorem inv_method : Inv getMethod encM (fun _ => True) := by
  intro l b hb
  unfold getMethod
  refine inv_step (inv_types (m := 4) (by omega) (by omega)) hb fun a l1 b1 h1 => ?_
  refine inv_step (inv_types (m := 8) (by omega) (by omega)) h1 fun c l2 b2 h2 => ?_
  refine inv_step inv_type h2 fun d l3 b3 h3 => ?_
  refine inv_step (inv_row (m := 64) (by omega) (by omega) inv_iget) h3 fun e l4 b4 h4 => ?_
  refine inv_step (inv_get (n := 8) (by omega) (by omega)) h4 fun f l5 b5 h5 => ?_
  refine inv_step (inv_get (n := 4096) (by omega) (by omega)) h5 fun g l6 b6 h6 => ?_
  refine inv_step (inv_nums (c := 64) (m := 4096) (by omega) (by omega) (by omega) (by omega)) h6 fun i l7 b7 h7 => ?_
  refine ⟨_, l7, b7, rfl, h7, ?_⟩
  cases b7 with
  | true => exact .inl rfl
  | false =>
    refine .inr ⟨rfl, rfl, fun _ e7 _ e6 _ e5 _ e4 _ e3 _ e2 _ e1 => ⟨?_, trivial⟩⟩
    rw [e1, e2, e3, e4, e5, e6, e7]
    unfold encM encRow
    simp only [List.append_assoc]

theorem fwd_class {c : Cl} (h : iclass c = true) : Fwd getClass encC c := by
  obtain ⟨⟨c1, c2⟩, _, _⟩ := cls_of h
  have hm := h
  simp only [iclass, Bool.and_eq_true] at hm
  have f1 := fwd_get (v := c.1 + 1) (n := 8) (by omega) (by omega) (by omega)
  have f2 := fwd_types (m := 8) (by omega) hm.2.2.1
  have f3 := fwd_nums (c := 4) (m := 11) (by omega) (by omega) hm.2.2.2
  refine ⟨by unfold encC; simp only [bytesB_append, f1.1, f2.1, f3.1, Bool.and_self], fun rest hr => ?_⟩
  unfold encC getClass
  simp only [List.append_assoc]
  refine fwd_step f1 (by simp only [bytesB_append, f2.1, f3.1, hr, Bool.and_self]) (fwd_step f2 (by simp only [bytesB_append, f3.1, hr, Bool.and_self]) (fwd_step f3 hr ?_))
  have hw : IntKind.i64.wrap (c.1 + 1 - 1) = c.1 := by rw [w64' (by omega) (by omega)]; omega
  rw [hw]
theorem inv_class : Inv getClass encC (fun _ => True) := by
  intro l b hb
  unfold getClass
  refine inv_step (inv_get (n := 8) (by omega) (by omega)) hb fun a l1 b1 h1 => ?_
  refine inv_step (inv_types (m := 8) (by omega) (by omega)) h1 fun c l2 b2 h2 => ?_
  refine inv_step (inv_nums (c := 4) (m := 11) (by omega) (by omega) (by omega) (by omega)) h2 fun d l3 b3 h3 => ?_
  refine ⟨_, l3, b3, rfl, h3, ?_⟩
  cases b3 with
  | true => exact .inl rfl
  | false =>
    refine .inr ⟨rfl, rfl, fun _ e3 _ e2 q1 e1 => ⟨?_, trivial⟩⟩
    rw [e1, e2, e3]
    unfold encC
    have hw : IntKind.i64.wrap (a - 1) + 1 = a := by rw [w64' (by omega) (by omega)]; omega
    simp only [hw, List.append_assoc]

theorem encB_eq (m : Im) : encB m = encRow encC m.1 ++ (encTs m.2.1 ++ (encRow encZ m.2.2.1 ++ (encRow encM m.2.2.2.1 ++ (encNs m.2.2.2.2.1 ++ (encN m.2.2.2.2.2.1 ++ encN m.2.2.2.2.2.2.1))))) := by
  unfold encB encRow
  simp only [List.append_assoc]

theorem fwd_img {m : Im} (hi : ifits m = true) (h32 : ints32 m.2.2.1 = true) : Fwd getImg encB m := by
  have hf := fit_of hi
  have h8 := hf.classes
  have h12 := hf.methods
  have h16 := hf.ints
  have hs1 := hf.stack
  have hs2 := hf.heap
  simp only [iwithin, Bool.and_eq_true, decide_eq_true_eq] at hs1 hs2
  have hint : ∀ n ∈ m.2.2.1, -2147483648 ≤ n ∧ n ≤ 2147483647 := by simpa [ints32] using h32
  have f1 := fwd_row (f := getClass) (e := encC) (m := 8) (l := m.1) (by omega) (by omega) fun c hc => fwd_class (hf.cls c hc)
  have f2 := fwd_types (m := 8) (by omega) hf.statics
  have f3 := fwd_row (f := glongN) (e := encZ) (m := 16) (l := m.2.2.1) (by omega) (by omega) fun n hn => fwd_long (hint n hn).1 (hint n hn).2
  have f4 := fwd_row (f := getMethod) (e := encM) (m := 12) (l := m.2.2.2.1) (by omega) (by omega) fun x hx => fwd_method (hf.mts x hx)
  have f5 := fwd_nums (c := 12) (m := 11) (by omega) (by omega) hf.entries
  have f6 := fwd_get (n := 4096) hs1.1 hs1.2 (by omega)
  have f7 := fwd_get (n := 4096) hs2.1 hs2.2 (by omega)
  refine ⟨by rw [encB_eq]; simp only [bytesB_append, f1.1, f2.1, f3.1, f4.1, f5.1, f6.1, f7.1, Bool.and_self], fun rest hr => ?_⟩
  rw [encB_eq]
  simp only [List.append_assoc]
  unfold getImg
  refine fwd_step f1 ?_ (fwd_step f2 ?_ (fwd_step f3 ?_ (fwd_step f4 ?_ (fwd_step f5 ?_ (fwd_step f6 ?_ (fwd_step f7 hr rfl))))))
  all_goals simp only [bytesB_append, f2.1, f3.1, f4.1, f5.1, f6.1, f7.1, hr, Bool.and_self]
theorem inv_img : Inv getImg encB (fun m => ints32 m.2.2.1 = true) := by
  intro l b hb
  unfold getImg
  refine inv_step (inv_row (m := 8) (by omega) (by omega) inv_class) hb fun a l1 b1 h1 => ?_
  refine inv_step (inv_types (m := 8) (by omega) (by omega)) h1 fun c l2 b2 h2 => ?_
  refine inv_step (inv_row (m := 16) (by omega) (by omega) inv_long) h2 fun d l3 b3 h3 => ?_
  refine inv_step (inv_row (m := 12) (by omega) (by omega) inv_method) h3 fun e l4 b4 h4 => ?_
  refine inv_step (inv_nums (c := 12) (m := 11) (by omega) (by omega) (by omega) (by omega)) h4 fun f l5 b5 h5 => ?_
  refine inv_step (inv_get (n := 4096) (by omega) (by omega)) h5 fun g l6 b6 h6 => ?_
  refine inv_step (inv_get (n := 4096) (by omega) (by omega)) h6 fun i l7 b7 h7 => ?_
  refine ⟨_, l7, b7, rfl, h7, ?_⟩
  cases b7 with
  | true => exact .inl rfl
  | false =>
    refine .inr ⟨rfl, rfl, fun _ e7 _ e6 _ e5 _ e4 q3 e3 _ e2 _ e1 => ⟨?_, by simpa [ints32] using q3⟩⟩
    rw [e1, e2, e3, e4, e5, e6, e7, encB_eq]
    simp only [List.append_assoc]

/-! ### the whole -/
theorem awake5_eq : awake5N = some (true, ()) := by kernel_rfl

theorem finN_row (l : List Int) (b : Bool) : finN (l, b, ()) = some (!b && (l.length == 0), (l, b, ()), ()) := by
  unfold finN
  cases b
  · simp
    cases l <;> simp
    omega
  · rfl

theorem mark_take {l : List Int} : ((mark ++ l).take 4) = mark := by simp [mark]
theorem mark_drop {l : List Int} : ((mark ++ l).drop 4) = l := by simp [mark]
theorem mark_str : (strOfNums mark).toList = (⟨#[112, 108, 105, 109]⟩ : ByteArray).toList := by kernel_rfl
theorem mark_of {l : List Int} (hb : bytesB l = true) (h : (strOfNums (l.take 4)).toList = (⟨#[112, 108, 105, 109]⟩ : ByteArray).toList) : l.take 4 = mark := by
  rw [← mark_str] at h
  exact str_inj (bytesB_take 4 hb) rfl h

/-- An image's bytes, and others behind them, read. -/
theorem decode_enc {m : Im} (hi : ifits m = true) (h32 : ints32 m.2.2.1 = true) {rest : List Int} (hr : bytesB rest = true) (hl : (encIm m ++ rest).length ≤ 8192) :
    idecode (encIm m ++ rest) = some (bif decide (rest.length = 0) then m else zIm, bif decide (rest.length = 0) then 0 else 2, ()) := by
  have hf := (fwd_img hi h32).2 rest hr
  have he : encIm m ++ rest = mark ++ (encB m ++ rest) := by unfold encIm; rw [List.append_assoc]
  rw [he] at hl ⊢
  have h1 : ¬ ((mark ++ (encB m ++ rest)).length : Int) > 8192 := by omega
  have h2 : ¬ ((mark ++ (encB m ++ rest)).length : Int) < 4 := by rw [List.length_append]; simp only [mark, List.length_cons, List.length_nil]; omega
  unfold idecode
  rw [decide_eq_false h1, decide_eq_false h2, mark_take, mark_drop, mark_str]
  simp only [beq_self_eq_true, Bool.not_true, Bool.or_false, cond_false]
  unfold newN
  rw [hf]
  simp only [Option.bind_some, finN_row, Bool.not_false, Bool.true_and, hi, Bool.not_true, Bool.or_false]
  cases rest <;> simp

theorem decode_inv {b : List Int} (hb : bytesB b = true) : idecode b = some (zIm, 2, ()) ∨ ∃ m : Im, idecode b = some (m, 0, ()) ∧ ifits m = true ∧ ints32 m.2.2.1 = true ∧ b = encIm m ∧ b.length ≤ 8192 := by
  unfold idecode
  by_cases h1 : (b.length : Int) > 8192
  · simp [h1]
  by_cases h2 : (b.length : Int) < 4
  · simp [h2]
  cases hm : (strOfNums (b.take 4)).toList == (⟨#[112, 108, 105, 109]⟩ : ByteArray).toList
  · simp
  have hmk := mark_of hb (by simpa using hm)
  simp only [h1, h2, decide_false, Bool.not_true, Bool.or_false, cond_false]
  obtain ⟨m, l', bad, g1, g2, g3⟩ := inv_img (b.drop 4) false (bytesB_drop 4 hb)
  unfold newN
  rw [g1]
  simp only [Option.bind_some, finN_row]
  cases hx : !(!bad && (l'.length == 0)) || !ifits m
  · right
    simp only [Bool.or_eq_false_iff, Bool.not_eq_false', Bool.and_eq_true, Bool.not_eq_true', beq_iff_eq] at hx
    obtain ⟨⟨hbad, hl'⟩, hfit⟩ := hx
    rcases g3 with g3 | ⟨_, _, g4, g5⟩
    · rw [g3] at hbad; cases hbad
    · refine ⟨m, rfl, hfit, g5, ?_, by omega⟩
      have : l' = [] := List.length_eq_zero_iff.1 hl'
      rw [this, List.append_nil] at g4
      unfold encIm
      rw [← g4, ← hmk, List.take_append_drop]
  · left; rfl

theorem encIm_len (m : Im) : 4 ≤ (encIm m).length := by unfold encIm; rw [List.length_append]; simp only [mark, List.length_cons, List.length_nil]; omega
theorem encIm_bytes {m : Im} (hi : ifits m = true) (h32 : ints32 m.2.2.1 = true) : bytesB (encIm m) = true := by
  unfold encIm
  rw [bytesB_append, (fwd_img hi h32).1]; rfl

theorem im_self (m : Im) : (m == m) = true := by simp

theorem imageEncodes_law (m : Im) (h32 : ints32 m.2.2.1 = true) : imageEncodesN m = some (true, ()) := by
  unfold imageEncodesN
  rw [awake5_eq]
  cases small5 m
  · rfl
  simp only [Bool.not_true, cond_false]
  unfold r5fits r5encode
  cases hi : ifits m
  · have : iencode m = some ([], 1, ()) := by unfold iencode; rw [hi]; rfl
    rw [this]; rfl
  simp only [h32, Bool.and_self, cond_true, Option.bind_some, Bool.not_true, cond_false]
  by_cases hl : (encIm m).length > 8192
  · have hl' : ((encIm m).length : Int) > 8192 := by omega
    have : iencode m = some ([], 12, ()) := by unfold iencode; rw [hi, h32, decide_eq_true hl]; rfl
    rw [this, decide_eq_true hl']
    rfl
  · have hl' : ¬ ((encIm m).length : Int) > 8192 := by omega
    have he : iencode m = some (encIm m, 0, ()) := by unfold iencode; rw [hi, h32, decide_eq_false hl]; rfl
    rw [he, decide_eq_false hl']
    have hd := decode_enc hi h32 (rest := []) rfl (by rw [List.append_nil]; omega)
    rw [List.append_nil] at hd
    simp only [Option.bind_some, cond_false, hd, List.length_nil, decide_true, cond_true, beq_self_eq_true, r5same]

theorem imageDecodes_law (b : List Int) (hb : bytesB b = true) : imageDecodesN b = some (true, ()) := by
  unfold imageDecodesN
  have hs : ∃ c : List Int, bytesB c = true ∧ (bif decide ((b.length : Int) > 9000) then
      bif decide ((9000 : Int) ≤ (b.length : Int)) then (some (.inl ((b.take 9000).drop 0, ())) : Option ((List Int × Unit) ⊕ (Bool × Unit))) else none else some (.inl (b, ()))) = some (.inl (c, ())) := by
    by_cases h : (b.length : Int) > 9000
    · have h2 : (9000 : Int) ≤ (b.length : Int) := by omega
      exact ⟨_, bytesB_drop 0 (bytesB_take 9000 hb), by rw [decide_eq_true h, decide_eq_true h2]; rfl⟩
    · exact ⟨b, hb, by rw [decide_eq_false h]; rfl⟩
  obtain ⟨c, hc, hs⟩ := hs
  rw [hs, awake5_eq]
  simp only [Option.bind_some]
  rcases decode_inv hc with h | ⟨m, h, hi, h32, he, hl⟩
  · rw [h]; rfl
  · rw [h]
    have hr : r5encode m = some (encIm m, ()) := by unfold r5encode; rw [hi, h32]; rfl
    have hl' : (c.length : Int) ≤ 8192 := by omega
    have h0 : ((0 : Int) != 0) = false := rfl
    simp only [Option.bind_some, h0, cond_false, cond_true, r5fits, hi, hr, ← he, beq_self_eq_true, decide_eq_true hl']

theorem imageCuts_law (m : Im) (a : Int) (x : List Int) (h32 : ints32 m.2.2.1 = true) (ha : 0 ≤ a ∧ a < 65536) (hx : bytesB x = true) : imageCutsN m a x = some (true, ()) := by
  unfold imageCutsN
  rw [awake5_eq]
  cases small5 m
  · rfl
  simp only [Bool.not_true, cond_false]
  by_cases hxl : (x.length : Int) > 50
  · rw [decide_eq_true hxl]; rfl
  rw [decide_eq_false hxl]
  simp only [cond_false]
  cases hi : ifits m
  · have : iencode m = some ([], 1, ()) := by unfold iencode; rw [hi]; rfl
    rw [this]; rfl
  by_cases hl : (encIm m).length > 8192
  · have : iencode m = some ([], 12, ()) := by unfold iencode; rw [hi, h32, decide_eq_true hl]; rfl
    rw [this]
    rfl
  have he : iencode m = some (encIm m, 0, ()) := by unfold iencode; rw [hi, h32, decide_eq_false hl]; rfl
  have h4 := encIm_len m
  have h0 : ((0 : Int) != 0) = false := rfl
  have hz : (((encIm m).length : Int) == 0) = false := by
    have : ¬ ((encIm m).length : Int) = 0 := by omega
    simpa using this
  have hz2 : decide (((encIm m).length : Int) = 0) = false := decide_eq_false (by omega)
  rw [he]
  simp only [Option.bind_some, h0, hz, hz2, cond_false, Bool.not_false, cond_true]
  have hw : (IntKind.i64.wrap a).tmod ((encIm m).length : Int) = ((a.toNat % (encIm m).length : Nat) : Int) := by
    rw [w64' (by omega) (by omega)]
    rw [show a = ((a.toNat : Nat) : Int) by omega, Int.toNat_natCast]
    exact (Int.ofNat_tmod _ _).symm
  have hlt := Nat.mod_lt a.toNat (show (encIm m).length > 0 by omega)
  rw [hw]
  have hle : ((a.toNat % (encIm m).length : Nat) : Int) ≤ ((encIm m).length : Int) := by omega
  have hge : (0 : Int) ≤ ((a.toNat % (encIm m).length : Nat) : Int) := by omega
  simp only [decide_eq_true hge, decide_eq_true hle, Bool.and_self, cond_true, Int.toNat_natCast, List.drop_zero]
  have hb := encIm_bytes hi h32
  have hcut : idecode ((encIm m).take (a.toNat % (encIm m).length)) = some (zIm, 2, ()) := by
    rcases decode_inv (bytesB_take (a.toNat % (encIm m).length) hb) with h | ⟨q, h, qi, q32, qe, ql⟩
    · exact h
    · exfalso
      have hrest := bytesB_drop (a.toNat % (encIm m).length) hb
      have hsplit : encIm m = encIm q ++ (encIm m).drop (a.toNat % (encIm m).length) := by rw [← qe, List.take_append_drop]
      have d1 := decode_enc qi q32 hrest (by rw [← hsplit]; omega)
      have hne : ¬ ((encIm m).drop (a.toNat % (encIm m).length)).length = 0 := by rw [List.length_drop]; omega
      rw [← hsplit, decide_eq_false hne] at d1
      have d2 := decode_enc hi h32 (rest := []) rfl (by rw [List.append_nil]; omega)
      rw [List.append_nil, d1] at d2
      cases d2
  rw [hcut]
  have hr1 : decide (([] : List Int).length + (encIm m).length < rowMax) = true := room_far (by simp only [List.length_nil]; omega)
  have hr2 : decide ((([] : List Int) ++ encIm m).length + x.length < rowMax) = true := room_far (by simp only [List.nil_append]; omega)
  rw [hr1, hr2]
  simp only [Option.bind_some, cond_true, List.nil_append]
  have h2 : ((2 : Int) == 2) = true := rfl
  simp only [h2, cond_true]
  by_cases hx0 : x.length = 0
  · have hd := decode_enc hi h32 hx (by rw [List.length_append]; omega)
    rw [hd]
    simp [hx0]
  · have hx1 : (x.length : Int) > 0 := by omega
    rw [decide_eq_true hx1]
    by_cases hbig : (encIm m ++ x).length ≤ 8192
    · rw [decode_enc hi h32 hx hbig, decide_eq_false hx0]
      rfl
    · have : idecode (encIm m ++ x) = some (zIm, 2, ()) := by
        unfold idecode
        have : ((encIm m ++ x).length : Int) > 8192 := by omega
        rw [decide_eq_true this]; rfl
      rw [this]; rfl

theorem ints32_of_wf {P : Program} {e : TypeId} {l : List Int} (h : Wf P (.sl e (.int .i32)) l) : ints32 l = true := by
  simp only [ints32, List.all_eq_true, Bool.and_eq_true, decide_eq_true_eq]
  exact fun n hn => i32s_of_wf h n hn
theorem u16_of_wf {P : Program} {u : Int} (h : Wf P (.int .u16) u) : 0 ≤ u ∧ u < 65536 := by
  have h' : IntKind.u16.min ≤ u ∧ u ≤ IntKind.u16.max := h
  rw [show IntKind.u16.min = 0 by decide, show IntKind.u16.max = 65535 by decide] at h'
  omega

end Go.Pli
