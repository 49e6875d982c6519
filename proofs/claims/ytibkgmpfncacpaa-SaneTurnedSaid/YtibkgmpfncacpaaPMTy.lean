/- PM: a type of the value machine and a type of the model's. -/
import Derived.Test.YtibkgmpfncacpaaPMOps
namespace Go.PM
open Go
def zeroCells : Ty → List Value
 | .unit => []
 | .int k => [.int k 0]
 | .bool => [.bool false]
 | .str => [.string ⟨#[]⟩]
 | .sl _ _ => [.slice none 0 0]
 | .any => [.nilFunc]
 | .clo _ _ => []
 | .osl _ _ => [.slice none 0 0]
 | .pair a b => zeroCells a ++ zeroCells b
def eqZ : List Value → List Value → Bool
 | [], [] => true
 | .int k n :: l, .int k' n' :: l' => decide (k = k') && decide (n = n') && eqZ l l'
 | .bool b :: l, .bool b' :: l' => (b == b') && eqZ l l'
 | .string ⟨⟨[]⟩⟩ :: l, .string ⟨⟨[]⟩⟩ :: l' => eqZ l l'
 | .slice none 0 0 :: l, .slice none 0 0 :: l' => eqZ l l'
 | .nilFunc :: l, .nilFunc :: l' => eqZ l l'
 | _, _ => false
theorem eqZ_eq : ∀ {l l' : List Value}, eqZ l l' = true → l = l' := by
 intro l l' h
 fun_induction eqZ l l' with
 | case1 => rfl
 | case2 k n l k' n' l' ih =>
  simp only [Bool.and_eq_true, decide_eq_true_eq] at h
  obtain ⟨⟨rfl, rfl⟩, h⟩ := h
  rw [ih h]
 | case3 b l b' l' ih =>
  simp only [Bool.and_eq_true, beq_iff_eq] at h
  obtain ⟨rfl, h⟩ := h
  rw [ih h]
 | case4 l l' ih => rw [ih h]
 | case5 l l' ih => rw [ih h]
 | case6 l l' ih => rw [ih h]
 | case7 => simp at h
theorem zero_rep (fix : Nat → Nat → Prop) (W : World) : ∀ t : Ty, t.plain = true → Rep fix W t t.zero (zeroCells t)
 | .unit, _ => rfl
 | .int _, _ => rfl
 | .bool, _ => rfl
 | .str, _ => rfl
 | .sl _ _, _ => ⟨none, 0, rfl, ⟨Nat.le_refl _, Nat.zero_le _⟩, fun h => absurd rfl h⟩
 | .pair a b, h => by
  simp only [Ty.plain, Bool.and_eq_true] at h
  exact ⟨_, _, rfl, zero_rep fix W a h.1, zero_rep fix W b h.2⟩
 | .any, _ => ⟨_, rfl, rfl⟩
def sizedB (P : Program) (T : Ty) (t : TypeId) : Bool :=
 match P.info? t with
 | some i => i.size == T.sz && (match i.zero with
  | some z => (Value.isAgg z == T.isAgg) && eqZ z.cells.toList (zeroCells T)
  | none => false)
 | none => false
def rowB (P : Program) (r : Ty) (e : TypeId) : Bool :=
 match P.info? e with
 | some i => decide (0 < i.bytes) && decide (i.bytes ≤ 256) && decide (0 < r.sz)
 | none => false
def tyGo (P : Program) : Ty → TypeId ⊕ (List Field × Nat) → Bool
 | .int k, .inl t => sizedB P (.int k) t && (match P.underlying t with | some (.int k') => decide (k = k') | _ => false)
 | .bool, .inl t => sizedB P .bool t && (match P.underlying t with | some .bool => true | _ => false)
 | .str, .inl t => sizedB P .str t && (match P.underlying t with | some .string => true | _ => false)
 | .sl e r, .inl t => sizedB P (.sl e r) t && (match P.underlying t with | some (.slice e') => e == e' | _ => false) && rowB P r e && tyGo P r (.inl e)
 | .any, .inl t => sizedB P .any t && (match P.underlying t with | some (.func _ _ _) => true | _ => false)
 | .unit, .inl t => sizedB P .unit t && (!P.stoodInHeld t && !P.eqGuardType P.depth t) && (match P.underlying t with | some (.struct fs) => fs.toList.isEmpty | _ => false)
 | .unit, .inr (fs, _) => fs.isEmpty
 | .pair a b, .inl t => sizedB P (.pair a b) t && (!P.stoodInHeld t && !P.eqGuardType P.depth t) && (match P.underlying t with
  | some (.struct fs) => match fs.toList with
   | f :: l => f.offset == 0 && decide (0 < a.sz) && (f.name != "_") && tyGo P a (.inl f.type) && tyGo P b (.inr (l, a.sz))
   | [] => false
  | _ => false)
 | .pair a b, .inr (fs, o) => match fs with
  | f :: l => f.offset == o && decide (0 < a.sz) && (f.name != "_") && tyGo P a (.inl f.type) && tyGo P b (.inr (l, o + a.sz))
  | [] => false
 | _, _ => false
def TyOk (P : Program) (t : TypeId) (T : Ty) : Prop := tyGo P T (.inl t) = true
section
variable {P : Program} {t : TypeId} {T : Ty}
theorem sizedB_spec (h : sizedB P T t = true) : ∃ i z, P.info? t = some i ∧ i.size = T.sz ∧ i.zero = some z ∧ Value.isAgg z = T.isAgg ∧ z.cells.toList = zeroCells T := by
 unfold sizedB at h
 split at h
 ·rename_i i hi
  simp only [Bool.and_eq_true, beq_iff_eq] at h
  obtain ⟨h1, h2⟩ := h
  split at h2
  ·rename_i z hz
   simp only [Bool.and_eq_true, beq_iff_eq] at h2
   exact ⟨i, z, hi, h1, hz, h2.1, eqZ_eq h2.2⟩
  ·simp at h2
 ·simp at h
theorem TyOk.sized (h : TyOk P t T) : ∃ i z, P.info? t = some i ∧ i.size = T.sz ∧ i.zero = some z ∧ Value.isAgg z = T.isAgg ∧ z.cells.toList = zeroCells T := by
 unfold TyOk at h
 cases T <;> simp only [tyGo, Bool.and_eq_true] at h
 ·exact sizedB_spec h.1.1
 ·exact sizedB_spec h.1
 ·exact sizedB_spec h.1
 ·exact sizedB_spec h.1
 ·exact sizedB_spec h.1.1.1
 ·exact sizedB_spec h.1.1
 ·exact sizedB_spec h.1
 ·cases h
 ·cases h
theorem TyOk.plain_go : ∀ (T : Ty) (m : TypeId ⊕ (List Field × Nat)), tyGo P T m = true → T.plain = true
 | .unit, _, _ => rfl
 | .int _, _, _ => rfl
 | .bool, _, _ => rfl
 | .str, _, _ => rfl
 | .any, _, _ => rfl
 | .sl _ r, .inl t, h => by
  simp only [tyGo, Bool.and_eq_true] at h
  exact TyOk.plain_go r _ h.2
 | .sl _ _, .inr _, h => by simp [tyGo] at h
 | .clo _ _, .inl _, h => by simp [tyGo] at h
 | .clo _ _, .inr _, h => by simp [tyGo] at h
 | .osl _ _, .inl _, h => by simp [tyGo] at h
 | .osl _ _, .inr _, h => by simp [tyGo] at h
 | .pair a b, .inl t, h => by
  simp only [tyGo, Bool.and_eq_true] at h
  have h2 := h.2
  split at h2
  ·split at h2
   ·simp only [Bool.and_eq_true] at h2
    simp only [Ty.plain, Bool.and_eq_true]
    exact ⟨TyOk.plain_go a _ h2.1.2, TyOk.plain_go b _ h2.2⟩
   ·cases h2
  ·cases h2
 | .pair a b, .inr (fs, o), h => by
  cases fs with
  | nil => simp [tyGo] at h
  | cons f l =>
   simp only [tyGo, Bool.and_eq_true] at h
   simp only [Ty.plain, Bool.and_eq_true]
   exact ⟨TyOk.plain_go a _ h.1.2, TyOk.plain_go b _ h.2⟩
theorem TyOk.plain (h : TyOk P t T) : T.plain = true := TyOk.plain_go T _ h
theorem TyOk.run_zero (h : TyOk P t T) : ∃ z, Value.isAgg z = T.isAgg ∧ z.cells.toList = zeroCells T ∧ ∀ W, (zeroValue t).run P W = .ok z W := by
 obtain ⟨i, z, h1, h2, h3, h4, h5⟩ := h.sized
 exact ⟨z, h4, h5, fun W => by simp [zeroValue, typeInfo, h1, h3]⟩
theorem TyOk.run_size (h : TyOk P t T) (W : World) : (sizeOf t).run P W = .ok T.sz W := by
 obtain ⟨i, z, h1, h2, h3, h4, h5⟩ := h.sized
 simp [sizeOf, typeInfo, h1, h2]
theorem TyOk.sl_und {e : TypeId} {r : Ty} (h : TyOk P t (.sl e r)) : P.underlying t = some (.slice e) := by
 unfold TyOk at h
 simp only [tyGo, Bool.and_eq_true] at h
 have := h.1.1.2
 split at this
 ·rename_i e' he; rw [he]; simp only [beq_iff_eq] at this; rw [this]
 ·simp at this
theorem TyOk.sl_row {e : TypeId} {r : Ty} (h : TyOk P t (.sl e r)) : TyOk P e r := by
 unfold TyOk at h ⊢
 simp only [tyGo, Bool.and_eq_true] at h
 exact h.2
theorem TyOk.sl_info {e : TypeId} {r : Ty} (h : TyOk P t (.sl e r)) : ∃ i z, P.info? e = some i ∧ i.size = r.sz ∧ i.zero = some z ∧ z.cells.toList = zeroCells r ∧ 0 < r.sz ∧ 0 < i.bytes ∧ i.bytes ≤ 256 := by
 obtain ⟨i, z, h1, h2, h3, h4, h5⟩ := h.sl_row.sized
 unfold TyOk at h
 simp only [tyGo, Bool.and_eq_true] at h
 have hr := h.1.2
 unfold rowB at hr
 rw [h1] at hr
 simp only [Bool.and_eq_true, decide_eq_true_eq] at hr
 exact ⟨i, z, h1, h2, h3, h5, hr.2, hr.1.1, hr.1.2⟩
theorem TyOk.int_und {k : IntKind} (h : TyOk P t (.int k)) : P.underlying t = some (.int k) := by
 unfold TyOk at h
 simp only [tyGo, Bool.and_eq_true] at h
 have := h.2
 split at this
 ·rename_i e' he; rw [he]; simp only [decide_eq_true_eq] at this; rw [this]
 ·simp at this
theorem TyOk.agg_und (h : TyOk P t T) : (∃ fs, P.underlying t = some (.struct fs)) ∧ T.isAgg = true ∨ T.isAgg = false ∧ ((∃ k, P.underlying t = some (.int k)) ∨ P.underlying t = some .bool ∨ P.underlying t = some .string ∨ (∃ e, P.underlying t = some (.slice e)) ∨ ∃ a b c, P.underlying t = some (.func a b c)) := by
 cases T with
 | any =>
  unfold TyOk at h
  simp only [tyGo, Bool.and_eq_true] at h
  have := h.2
  split at this
  ·rename_i he; exact .inr ⟨rfl, .inr (.inr (.inr (.inr ⟨_, _, _, he⟩)))⟩
  ·simp at this
 | clo g c => unfold TyOk at h; simp [tyGo] at h
 | osl _ _ => unfold TyOk at h; simp [tyGo] at h
 | unit =>
  unfold TyOk at h
  simp only [tyGo, Bool.and_eq_true] at h
  have := h.2
  split at this
  ·rename_i fs he; exact .inl ⟨⟨fs, he⟩, rfl⟩
  ·simp at this
 | int k => exact .inr ⟨rfl, .inl ⟨k, h.int_und⟩⟩
 | bool =>
  unfold TyOk at h
  simp only [tyGo, Bool.and_eq_true] at h
  have := h.2
  split at this
  ·rename_i he; exact .inr ⟨rfl, .inr (.inl he)⟩
  ·simp at this
 | str =>
  unfold TyOk at h
  simp only [tyGo, Bool.and_eq_true] at h
  have := h.2
  split at this
  ·rename_i he; exact .inr ⟨rfl, .inr (.inr (.inl he))⟩
  ·simp at this
 | sl e r => exact .inr ⟨rfl, .inr (.inr (.inr (.inl ⟨e, h.sl_und⟩)))⟩
 | pair a b =>
  unfold TyOk at h
  simp only [tyGo, Bool.and_eq_true] at h
  have := h.2
  split at this
  ·rename_i fs he; exact .inl ⟨⟨fs, he⟩, rfl⟩
  ·simp at this
theorem TyOk.run_isAgg (h : TyOk P t T) (W : World) : (isAgg t).run P W = .ok T.isAgg W := by
 rcases h.agg_und with ⟨⟨fs, hu⟩, ha⟩ | ⟨ha, ⟨k, hu⟩ | hu | hu | ⟨e, hu⟩ | ⟨_, _, _, hu⟩⟩ <;> simp [isAgg, run_underlying hu, ha]
theorem fld_go : ∀ (T : Ty) (fs : List Field) (o : Nat) (f off : Nat) (ft : Ty), tyGo P T (.inr (fs, o)) = true → T.fld f = some (off, ft) → ∃ fd, fs[f]? = some fd ∧ fd.offset = o + off ∧ TyOk P fd.type ft ∧ 0 < ft.sz ∧ off + ft.sz ≤ T.sz
 | .pair a b, fs, o, f, off, ft, h, hf => by
  cases fs with
  | nil => simp [tyGo] at h
  | cons fd l =>
   simp only [tyGo, Bool.and_eq_true, beq_iff_eq, decide_eq_true_eq] at h
   obtain ⟨⟨⟨⟨h1, h2⟩, h3⟩, h4⟩, h5⟩ := h
   cases f with
   | zero =>
    simp only [Ty.fld, Option.some.injEq, Prod.mk.injEq] at hf
    obtain ⟨rfl, rfl⟩ := hf
    exact ⟨fd, rfl, by omega, h4, h2, by simp [Ty.sz]⟩
   | succ f =>
    simp only [Ty.fld] at hf
    split at hf
    ·rename_i o' t' he
     simp only [Option.some.injEq, Prod.mk.injEq] at hf
     obtain ⟨rfl, rfl⟩ := hf
     obtain ⟨fd', k1, k2, k3, k4, k5⟩ := fld_go b l (o + a.sz) f o' t' h5 he
     exact ⟨fd', k1, by omega, k3, k4, by simp [Ty.sz]; omega⟩
    ·simp at hf
 | .unit, _, _, _, _, _, _, hf => by simp [Ty.fld] at hf
 | .int _, _, _, _, _, _, _, hf => by simp [Ty.fld] at hf
 | .bool, _, _, _, _, _, _, hf => by simp [Ty.fld] at hf
 | .str, _, _, _, _, _, _, hf => by simp [Ty.fld] at hf
 | .sl _ _, _, _, _, _, _, _, hf => by simp [Ty.fld] at hf
 | .any, _, _, _, _, _, _, hf => by simp [Ty.fld] at hf
 | .clo _ _, _, _, _, _, _, _, hf => by simp [Ty.fld] at hf
 | .osl _ _, _, _, _, _, _, _, hf => by simp [Ty.fld] at hf
theorem TyOk.field (h : TyOk P t T) {f off : Nat} {ft : Ty} (hf : T.fld f = some (off, ft)) :
  ∃ fs fd, P.underlying t = some (.struct fs) ∧ fs[f]? = some fd ∧ fd.offset = off ∧ TyOk P fd.type ft ∧ 0 < ft.sz ∧ off + ft.sz ≤ T.sz := by
 cases T with
 | pair a b =>
  unfold TyOk at h
  simp only [tyGo, Bool.and_eq_true] at h
  have h2 := h.2
  split at h2
  ·rename_i fs hfs
   have h3 : tyGo P (.pair a b) (.inr (fs.toList, 0)) = true := by
    simp only [tyGo]
    split at h2
    ·rename_i fd l hl
     simpa using h2
    ·simp at h2
   obtain ⟨fd, k1, k2, k3, k4, k5⟩ := fld_go (.pair a b) fs.toList 0 f off ft h3 hf
   exact ⟨fs, fd, hfs, by simpa using k1, by omega, k3, k4, k5⟩
  ·simp at h2
 | _ => simp [Ty.fld] at hf
end
end Go.PM
