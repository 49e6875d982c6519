/- The laws on bits, plain: there and back. -/
import Derived.Test.YtcofionghgmldaaGreatPliInst
import Derived.Test.YtcofionghgmldaaGreatPMLaw
import Derived.Test.YtcofionghgmldaaGreatPliL5E
import Derived.KernelRfl
namespace Go.Pli
open Go Go.PM
theorem unzig (v : Nat) (h : v < 4294967296) : IntKind.i32.wrap ((BitVec.ofInt 32 (IntKind.i32.wrap ((IntKind.u32.wrap (v : Int)).fdiv 2)) ^^^ BitVec.ofInt 32 (IntKind.i32.wrap (0 - (IntKind.i32.wrap (IntKind.u32.wrap ((BitVec.ofInt 32 (IntKind.u32.wrap (v : Int)) &&& BitVec.ofInt 32 1).toNat)))))).toNat) = if v % 2 = 0 then ((v / 2 : Nat) : Int) else -((v / 2 : Nat) : Int) - 1 := by
 have h1 : IntKind.u32.wrap (v : Int) = v := by rw [IntKind.wrap_u32]; omega
 have h2 : ((v : Int)).fdiv 2 = ((v / 2 : Nat) : Int) := by rw [Int.fdiv_eq_ediv_of_nonneg _ (by omega)]; omega
 have h3 : IntKind.i32.wrap ((v / 2 : Nat) : Int) = ((v / 2 : Nat) : Int) := by rw [IntKind.wrap_i32]; omega
 have h4 : (BitVec.ofInt 32 (v : Int) &&& BitVec.ofInt 32 1).toNat = v % 2 := by
  have a1 : (BitVec.ofInt 32 (v : Int)).toNat = v := by simp; omega
  have a2 : (BitVec.ofInt 32 1).toNat = 1 := rfl
  rw [BitVec.toNat_and, a1, a2, Nat.and_one_is_mod]
 have h5 : IntKind.u32.wrap ((v % 2 : Nat) : Int) = ((v % 2 : Nat) : Int) := by rw [IntKind.wrap_u32]; omega
 have h6 : IntKind.i32.wrap ((v % 2 : Nat) : Int) = ((v % 2 : Nat) : Int) := by rw [IntKind.wrap_i32]; omega
 have hv2 : (BitVec.ofInt 32 ((v / 2 : Nat) : Int)).toNat = v / 2 := by simp; omega
 rw [h1, h2, h3, h4, h5, h6]
 by_cases hp : v % 2 = 0
 ·rw [if_pos hp, hp]
  have hz : BitVec.ofInt 32 (IntKind.i32.wrap (0 - ((0 : Nat) : Int))) = 0#32 := by decide
  rw [hz, BitVec.xor_zero, hv2, IntKind.wrap_i32]
  omega
 ·have hp1 : v % 2 = 1 := by omega
  rw [if_neg hp, hp1]
  have hz : BitVec.ofInt 32 (IntKind.i32.wrap (0 - ((1 : Nat) : Int))) = BitVec.allOnes 32 := by decide
  rw [hz, BitVec.xor_allOnes, BitVec.toNat_not, hv2, IntKind.wrap_i32]
  omega
theorem zg_lt {m : Int} (h0 : -2147483648 ≤ m) (h1 : m ≤ 2147483647) : zg m < 4294967296 := by unfold zg; split <;> omega
theorem unz_zg {m : Int} (h0 : -2147483648 ≤ m) (h1 : m ≤ 2147483647) : (if zg m % 2 = 0 then ((zg m / 2 : Nat) : Int) else -((zg m / 2 : Nat) : Int) - 1) = m := by
 unfold zg
 split <;> split <;> omega
theorem glong_enc {m : Int} {rest : List Int} (h0 : -2147483648 ≤ m) (h1 : m ≤ 2147483647) (hb : bytesB rest = true) : glongN (enc (zg m) ++ rest, false, ()) = some (m, (rest, false, ()), ()) := by
 have hz := zg_lt h0 h1
 unfold glongN
 rw [get_enc (by omega) hb (by omega) (by omega)]
 simp only [Option.bind_some, unzig (zg m) hz, unz_zg h0 h1]
def i32s (l : List Int) : Prop := ∀ u ∈ l, -2147483648 ≤ u ∧ u ≤ 2147483647
end Go.Pli

namespace Go.Pli
open Go Go.PM
end Go.Pli

namespace Go.Pli
open Go Go.PM
theorem read_both {l : List Int} {n : Int} (hb : bytesB l = true) (h0 : 0 ≤ n) (h1 : n < 9223372036854775808) :
  (∃ v m : Nat, rnext l = some ((v : Int), (m : Int), ()) ∧ 1 ≤ m ∧ m ≤ l.length ∧ l.take m = enc v ∧ v < 128 ^ 5 ∧ (v : Int) ≤ n ∧ getN (l, false, ()) n = some ((v : Int), (l.drop m, false, ()), ())) ∨
  (∃ (x y : Int) (l' : List Int), rnext l = some (x, y, ()) ∧ ¬ (y > 0 ∧ x ≤ n) ∧ getN (l, false, ()) n = some (0, (l', true, ()), ())) := by
 have hbs : bytesB (l.take 5) = true := bytesB_take 5 hb
 unfold getN next rnext
 simp only [hbs, cond_true, cond_false]
 have hw : IntKind.u64.wrap n = n := by rw [IntKind.wrap_u64]; omega
 have hn0 : decide (n < 0) = false := decide_eq_false (by omega)
 cases hd : decF 5 0 0 l with
 | none => exact .inr ⟨0, 0, l, rfl, by omega, rfl⟩
 | some x =>
  obtain ⟨y, m, ok⟩ := x
  cases ok with
  | false => exact .inr ⟨0, 0, l.drop m, rfl, by omega, rfl⟩
  | true =>
   obtain ⟨v, m', e1, e2, e3, e4, e5, e6, e7⟩ := decF_inv 5 0 0 l y m hbs hd
   have hy : y = v := by omega
   have hm : m = m' := by omega
   subst hy; subst hm
   simp only [Option.bind_some, Bool.not_true, cond_false, hn0, hw]
   by_cases hgt : (y : Int) > n
   ·rw [decide_eq_true hgt]
    exact .inr ⟨_, _, l.drop m, rfl, by omega, rfl⟩
   ·rw [decide_eq_false hgt]
    have hw2 : IntKind.i64.wrap (y : Int) = y := w64 (by omega) (by omega)
    refine .inl ⟨y, m, rfl, e3, e4, ?_, by omega, by omega, by simp only [cond_false, hw2]⟩
    rw [e5]
    exact (encF_le e6 (by omega)).symm
structure GInv (s : List Int) (at_ : Nat) (bad : Bool) (r : Rd) : Prop where
 le : at_ ≤ s.length
 rd : r = (if bad then r.1 else s.drop at_, bad, ())
end Go.Pli

namespace Go.Pli
open Go Go.PM
theorem ints_of_wf {P : Program} {e : TypeId} {k : IntKind} {l : List Int} (h : Wf P (.sl e (.int k)) l) : ∀ u ∈ l, k.min ≤ u ∧ u ≤ k.max := by
 intro x hx
 obtain ⟨i, hi⟩ := List.mem_iff_getElem?.1 hx
 exact h.2 i x hi
theorem i32s_of_wf {P : Program} {e : TypeId} {l : List Int} (h : Wf P (.sl e (.int .i32)) l) : i32s l := fun u hu => by
 have := ints_of_wf h u hu
 rw [show IntKind.i32.min = -2147483648 by decide, show IntKind.i32.max = 2147483647 by decide] at this
 omega
end Go.Pli

namespace Go.Pli
open Go Go.PM
def Fwd {α : Type} (f : Rd → Option (α × Rd × Unit)) (e : α → List Int) (x : α) : Prop :=
 bytesB (e x) = true ∧ ∀ rest, bytesB rest = true → f (e x ++ rest, false, ()) = some (x, (rest, false, ()), ())
theorem fwd_get {v n : Int} (h0 : 0 ≤ v) (h1 : v ≤ n) (hn : n < 4294967296) : Fwd (fun r => getN r n) encN v := by
 refine ⟨enc_bytes (by omega), fun rest hr => ?_⟩
 have := get_enc (v := v.toNat) (n := n) (rest := rest) (by omega) hr (by omega) (by omega)
 rw [show ((v.toNat : Nat) : Int) = v by omega] at this
 exact this
theorem fwd_iget {i : Ins} (h : igood i = true) : Fwd igetN encI i := by
 unfold Fwd
 rw [encI_ienc]
 exact ⟨ienc_bytes h, fun rest hr => getN_ienc h hr⟩
theorem fwd_long {n : Int} (h0 : -2147483648 ≤ n) (h1 : n ≤ 2147483647) : Fwd glongN encZ n :=
 ⟨enc_bytes (Nat.lt_trans (zg_lt h0 h1) (by omega)), fun _ hr => glong_enc h0 h1 hr⟩
theorem fwd_type {t : Tp} (h : ityp t = true) : Fwd getType encT t := by
 obtain ⟨⟨t1, t2⟩, ⟨t3, t4⟩, t5⟩ := typ_range h
 obtain ⟨k, c, u⟩ := t
 simp only at t1 t2 t3 t4 t5
 have f1 := fwd_get (v := k) (n := 5) t1 t2 (by omega)
 have f2 := fwd_get (v := c) (n := 7) t3 t4 (by omega)
 unfold Fwd getType encT
 simp only
 by_cases h3 : k = 3
 ·subst h3
  have hb : bytesB (encN 3 ++ encN c) = true := by rw [bytesB_append, f1.1, f2.1]; rfl
  refine ⟨hb, fun rest hr => ?_⟩
  have e1 := f1.2 (encN c ++ rest) (by rw [bytesB_append, f2.1, hr]; rfl)
  have e2 := f2.2 rest hr
  simp only at e1 e2
  show (getN ((encN 3 ++ encN c) ++ rest, false, ()) 5).bind _ = _
  rw [List.append_assoc, e1]
  simp only [Option.bind_some]
  show (getN (encN c ++ rest, false, ()) 7).bind _ = _
  rw [e2]
  rfl
 ·have hk : (k == 3) = false := by simpa using h3
  have hc := t5 h3
  subst hc
  simp only [hk, cond_false, List.append_nil]
  refine ⟨f1.1, fun rest hr => ?_⟩
  have e1 := f1.2 rest hr
  show (getN (encN k ++ rest, false, ()) 5).bind _ = _
  simp only at e1
  rw [e1]
  simp only [Option.bind_some, hk, cond_false]
theorem fwd_rep {α : Type} {f : Rd → Option (α × Rd × Unit)} {e : α → List Int} : ∀ {l : List α}, (∀ x ∈ l, Fwd f e x) → Fwd (repO f l.length) (encR e) l
 | [], _ => ⟨rfl, fun _ _ => rfl⟩
 | x :: l, h => by
  have hx := h x (by simp)
  have ih := fwd_rep (l := l) fun y hy => h y (by simp [hy])
  refine ⟨by simp only [encR]; rw [bytesB_append, hx.1, ih.1]; rfl, fun rest hr => ?_⟩
  simp only [encR, List.length_cons, repO, List.append_assoc]
  rw [hx.2 _ (by rw [bytesB_append, ih.1, hr]; rfl)]
  simp only [Option.bind_some]
  rw [ih.2 rest hr]
  rfl
def encRow {α : Type} (e : α → List Int) (l : List α) : List Int := enc l.length ++ encR e l
theorem fwd_row {α : Type} {f : Rd → Option (α × Rd × Unit)} {e : α → List Int} {m : Int} {l : List α} (hl : (l.length : Int) ≤ m) (hm : m < 4294967296) (h : ∀ x ∈ l, Fwd f e x) : Fwd (fun r => getRow f r m) (encRow e) l := by
 have f1 := fwd_get (v := (l.length : Int)) (n := m) (by omega) hl hm
 have f2 := fwd_rep h
 refine ⟨?_, fun rest hr => ?_⟩
 ·unfold encRow
  rw [bytesB_append, f2.1]
  have := f1.1
  unfold encN at this
  rw [Int.toNat_natCast] at this
  rw [this]; rfl
 ·unfold getRow encRow
  have e1 := f1.2 (encR e l ++ rest) (by rw [bytesB_append, f2.1, hr]; rfl)
  unfold encN at e1
  simp only [Int.toNat_natCast] at e1
  show (getN ((enc l.length ++ encR e l) ++ rest, false, ()) m).bind _ = _
  rw [List.append_assoc, e1]
  simp only [Option.bind_some, Int.toNat_natCast]
  exact f2.2 rest hr
theorem getTypes_row {m : Int} (hm : m ≤ 1000) (r : Rd) : getTypes r m = getRow getType r m := by unfold getTypes; rw [decide_eq_true hm]; rfl
theorem getNums_row {c m : Int} (hc : c ≤ 1000) (r : Rd) : getNums r c m = getRow (fun r => getN r m) r c := by unfold getNums; rw [decide_eq_true hc]; rfl
theorem fwd_types {m : Int} {l : List Tp} (hm : m ≤ 1000) (h : itypes l m = true) : Fwd (fun r => getTypes r m) encTs l := by
 obtain ⟨h1, h2⟩ := types_of h
 have := fwd_row (f := getType) (e := encT) h1 (by omega) fun t ht => fwd_type (h2 t ht)
 refine ⟨this.1, fun rest hr => ?_⟩
 show getTypes _ m = _
 rw [getTypes_row hm]
 exact this.2 rest hr
theorem fwd_nums {c m : Int} {l : List Int} (hc : c ≤ 1000) (hm : m < 4294967296) (h : inums l c m = true) : Fwd (fun r => getNums r c m) encNs l := by
 obtain ⟨h1, h2⟩ := nums_of h
 have := fwd_row (f := fun r => getN r m) (e := encN) h1 (by omega) fun t ht => fwd_get (h2 t ht).1 (h2 t ht).2 hm
 refine ⟨this.1, fun rest hr => ?_⟩
 show getNums _ c m = _
 rw [getNums_row hc]
 exact this.2 rest hr
theorem fwd_step {α β : Type} {f : Rd → Option (α × Rd × Unit)} {e : α → List Int} {x : α} (hf : Fwd f e x) {s : List Int} (hs : bytesB s = true) {g : α × Rd × Unit → Option β} {y : Option β}
  (h : g (x, (s, false, ()), ()) = y) : (f (e x ++ s, false, ())).bind g = y := by
 rw [hf.2 s hs]
 exact h
structure Got {α : Type} (o : Option (α × Rd × Unit)) (l : List Int) (b : Bool) (C : α → List Int → Prop) : Prop where
 ex : ∃ x l' bad, o = some (x, (l', bad, ()), ()) ∧ bytesB l' = true ∧ (bad = true ∨ (b = false ∧ bad = false ∧ C x l'))
theorem fwd_method {x : Mt} (h : imethod x = true) : Fwd getMethod encM x := by
 obtain ⟨_, _, hret, ⟨x4, hgood⟩, x5, x6, _⟩ := mth_of h
 have hm := h
 simp only [imethod, Bool.and_eq_true] at hm
 obtain ⟨hm1, hm2, _, _, _, _, _, hm7⟩ := hm
 have f1 := fwd_types (m := 4) (by omega) hm1
 have f2 := fwd_types (m := 8) (by omega) hm2
 have f3 := fwd_type hret
 have f4 := fwd_row (f := igetN) (e := encI) (m := 64) (l := x.2.2.2.1) (by omega) (by omega) fun i hi => fwd_iget (hgood i hi)
 have f5 := fwd_get (n := 8) x5.1 x5.2 (by omega)
 have f6 := fwd_get (n := 4096) x6.1 x6.2 (by omega)
 have f7 := fwd_nums (c := 64) (m := 4096) (by omega) (by omega) hm7
 have he : encM x = encTs x.1 ++ (encTs x.2.1 ++ (encT x.2.2.1 ++ (encRow encI x.2.2.2.1 ++ (encN x.2.2.2.2.1 ++ (encN x.2.2.2.2.2.1 ++ encNs x.2.2.2.2.2.2.1))))) := by
  unfold encM encRow
  simp only [List.append_assoc]
 have hbytes : ∀ rest, bytesB rest = true → bytesB (encTs x.2.1 ++ (encT x.2.2.1 ++ (encRow encI x.2.2.2.1 ++ (encN x.2.2.2.2.1 ++ (encN x.2.2.2.2.2.1 ++ (encNs x.2.2.2.2.2.2.1 ++ rest)))))) = true := fun rest hr => by
  simp only [bytesB_append, f2.1, f3.1, f4.1, f5.1, f6.1, f7.1, hr, Bool.and_self]
 have hb2 := fun rest (hr : bytesB rest = true) => hbytes rest hr
 refine ⟨by rw [he]; simp only [bytesB_append, f1.1, f2.1, f3.1, f4.1, f5.1, f6.1, f7.1, Bool.and_self], fun rest hr => ?_⟩
 rw [he]
 simp only [List.append_assoc]
 unfold getMethod
 refine fwd_step f1 (hbytes rest hr) (fwd_step f2 ?_ (fwd_step f3 ?_ (fwd_step f4 ?_ (fwd_step f5 ?_ (fwd_step f6 ?_ (fwd_step f7 hr rfl))))))
 all_goals simp only [bytesB_append, f3.1, f4.1, f5.1, f6.1, f7.1, hr, Bool.and_self]
theorem fwd_class {c : Cl} (h : iclass c = true) : Fwd getClass encC c := by
 obtain ⟨⟨c1, c2⟩, _, _⟩ := cls_of h
 have hm := h
 simp only [iclass, Bool.and_eq_true] at hm
 have f1 := fwd_get (v := c.1 + 1) (n := 8) (by omega) (by omega) (by omega)
 have f2 := fwd_types (m := 8) (by omega) hm.2.2.1
 have f3 := fwd_nums (c := 4) (m := 11) (by omega) (by omega) hm.2.2.2
 refine ⟨by unfold encC; simp only [bytesB_append, f1.1, f2.1, f3.1, Bool.and_self], fun rest hr => ?_⟩
 unfold encC getClass
 simp only [List.append_assoc]
 refine fwd_step f1 (by simp only [bytesB_append, f2.1, f3.1, hr, Bool.and_self]) (fwd_step f2 (by simp only [bytesB_append, f3.1, hr, Bool.and_self]) (fwd_step f3 hr ?_))
 have hw : IntKind.i64.wrap (c.1 + 1 - 1) = c.1 := by rw [w64' (by omega) (by omega)]; omega
 rw [hw]
theorem encB_eq (m : Im) : encB m = encRow encC m.1 ++ (encTs m.2.1 ++ (encRow encZ m.2.2.1 ++ (encRow encM m.2.2.2.1 ++ (encNs m.2.2.2.2.1 ++ (encN m.2.2.2.2.2.1 ++ encN m.2.2.2.2.2.2.1))))) := by
 unfold encB encRow
 simp only [List.append_assoc]
theorem fwd_img {m : Im} (hi : ifits m = true) (h32 : ints32 m.2.2.1 = true) : Fwd getImg encB m := by
 have hf := fit_of hi
 have h8 := hf.classes
 have h12 := hf.methods
 have h16 := hf.ints
 have hs1 := hf.stack
 have hs2 := hf.heap
 simp only [iwithin, Bool.and_eq_true, decide_eq_true_eq] at hs1 hs2
 have hint : ∀ n ∈ m.2.2.1, -2147483648 ≤ n ∧ n ≤ 2147483647 := by simpa [ints32] using h32
 have f1 := fwd_row (f := getClass) (e := encC) (m := 8) (l := m.1) (by omega) (by omega) fun c hc => fwd_class (hf.cls c hc)
 have f2 := fwd_types (m := 8) (by omega) hf.statics
 have f3 := fwd_row (f := glongN) (e := encZ) (m := 16) (l := m.2.2.1) (by omega) (by omega) fun n hn => fwd_long (hint n hn).1 (hint n hn).2
 have f4 := fwd_row (f := getMethod) (e := encM) (m := 12) (l := m.2.2.2.1) (by omega) (by omega) fun x hx => fwd_method (hf.mts x hx)
 have f5 := fwd_nums (c := 12) (m := 11) (by omega) (by omega) hf.entries
 have f6 := fwd_get (n := 4096) hs1.1 hs1.2 (by omega)
 have f7 := fwd_get (n := 4096) hs2.1 hs2.2 (by omega)
 refine ⟨by rw [encB_eq]; simp only [bytesB_append, f1.1, f2.1, f3.1, f4.1, f5.1, f6.1, f7.1, Bool.and_self], fun rest hr => ?_⟩
 rw [encB_eq]
 simp only [List.append_assoc]
 unfold getImg
 refine fwd_step f1 ?_ (fwd_step f2 ?_ (fwd_step f3 ?_ (fwd_step f4 ?_ (fwd_step f5 ?_ (fwd_step f6 ?_ (fwd_step f7 hr rfl))))))
 all_goals simp only [bytesB_append, f2.1, f3.1, f4.1, f5.1, f6.1, f7.1, hr, Bool.and_self]
theorem finN_row (l : List Int) (b : Bool) : finN (l, b, ()) = some (!b && (l.length == 0), (l, b, ()), ()) := by
 unfold finN
 cases b
 ·simp
  cases l <;> simp
  omega
 ·rfl
theorem mark_take {l : List Int} : ((mark ++ l).take 4) = mark := by simp [mark]
theorem mark_drop {l : List Int} : ((mark ++ l).drop 4) = l := by simp [mark]
theorem mark_str : (strOfNums mark).toList = (⟨#[112, 108, 105, 109]⟩ : ByteArray).toList := by kernel_rfl
theorem decode_enc {m : Im} (hi : ifits m = true) (h32 : ints32 m.2.2.1 = true) {rest : List Int} (hr : bytesB rest = true) (hl : (encIm m ++ rest).length ≤ 8192) :
  idecode (encIm m ++ rest) = some (bif decide (rest.length = 0) then m else zIm, bif decide (rest.length = 0) then 0 else 2, ()) := by
 have hf := (fwd_img hi h32).2 rest hr
 have he : encIm m ++ rest = mark ++ (encB m ++ rest) := by unfold encIm; rw [List.append_assoc]
 rw [he] at hl ⊢
 have h1 : ¬ ((mark ++ (encB m ++ rest)).length : Int) > 8192 := by omega
 have h2 : ¬ ((mark ++ (encB m ++ rest)).length : Int) < 4 := by rw [List.length_append]; simp only [mark, List.length_cons, List.length_nil]; omega
 unfold idecode
 rw [decide_eq_false h1, decide_eq_false h2, mark_take, mark_drop, mark_str]
 simp only [beq_self_eq_true, Bool.not_true, Bool.or_false, cond_false]
 unfold newN
 rw [hf]
 simp only [Option.bind_some, finN_row, Bool.not_false, Bool.true_and, hi, Bool.not_true, Bool.or_false]
 cases rest <;> simp
theorem ints32_of_wf {P : Program} {e : TypeId} {l : List Int} (h : Wf P (.sl e (.int .i32)) l) : ints32 l = true := by
 simp only [ints32, List.all_eq_true, Bool.and_eq_true, decide_eq_true_eq]
 exact fun n hn => i32s_of_wf h n hn
end Go.Pli
