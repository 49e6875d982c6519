/- The laws on bits, plain: there and back. -/
import Derived.Test.YtibkgmpfncacpaaPliCodec
namespace Go.Pli
open Go Go.PM

theorem at_getN {α : Type} {N : Nat} {l pre m : List α} {x d : α} (hl : l.take N = pre ++ x :: m) : pre.length < l.length ∧ pre.length < N ∧ l.getD pre.length d = x := by
  have h1 : (l.take N)[pre.length]? = some x := by rw [hl]; simp
  rw [List.getElem?_take] at h1
  split at h1
  · rename_i hlt
    refine ⟨(List.getElem?_eq_some_iff.1 h1).1, hlt, ?_⟩
    rw [List.getD, h1]; rfl
  · cases h1

theorem at_endN {α : Type} {N : Nat} {l pre : List α} (hl : l.take N = pre) : ¬ (pre.length < l.length ∧ pre.length < N) := by
  rw [← hl, List.length_take]
  omega

theorem unzig (v : Nat) (h : v < 4294967296) : IntKind.i32.wrap ((BitVec.ofInt 32 (IntKind.i32.wrap ((IntKind.u32.wrap (v : Int)).fdiv 2)) ^^^ BitVec.ofInt 32 (IntKind.i32.wrap (0 - (IntKind.i32.wrap (IntKind.u32.wrap ((BitVec.ofInt 32 (IntKind.u32.wrap (v : Int)) &&& BitVec.ofInt 32 1).toNat)))))).toNat) = if v % 2 = 0 then ((v / 2 : Nat) : Int) else -((v / 2 : Nat) : Int) - 1 := by
  have h1 : IntKind.u32.wrap (v : Int) = v := by rw [IntKind.wrap_u32]; omega
  have h2 : ((v : Int)).fdiv 2 = ((v / 2 : Nat) : Int) := by rw [Int.fdiv_eq_ediv_of_nonneg _ (by omega)]; omega
  have h3 : IntKind.i32.wrap ((v / 2 : Nat) : Int) = ((v / 2 : Nat) : Int) := by rw [IntKind.wrap_i32]; omega
  have h4 : (BitVec.ofInt 32 (v : Int) &&& BitVec.ofInt 32 1).toNat = v % 2 := by
    have a1 : (BitVec.ofInt 32 (v : Int)).toNat = v := by simp; omega
    have a2 : (BitVec.ofInt 32 1).toNat = 1 := rfl
    rw [BitVec.toNat_and, a1, a2, Nat.and_one_is_mod]
  have h5 : IntKind.u32.wrap ((v % 2 : Nat) : Int) = ((v % 2 : Nat) : Int) := by rw [IntKind.wrap_u32]; omega
  have h6 : IntKind.i32.wrap ((v % 2 : Nat) : Int) = ((v % 2 : Nat) : Int) := by rw [IntKind.wrap_i32]; omega
  have hv2 : (BitVec.ofInt 32 ((v / 2 : Nat) : Int)).toNat = v / 2 := by simp; omega
  rw [h1, h2, h3, h4, h5, h6]
  by_cases hp : v % 2 = 0
  · rw [if_pos hp, hp]
    have hz : BitVec.ofInt 32 (IntKind.i32.wrap (0 - ((0 : Nat) : Int))) = 0#32 := by decide
    rw [hz, BitVec.xor_zero, hv2, IntKind.wrap_i32]
    omega
  · have hp1 : v % 2 = 1 := by omega
    rw [if_neg hp, hp1]
    have hz : BitVec.ofInt 32 (IntKind.i32.wrap (0 - ((1 : Nat) : Int))) = BitVec.allOnes 32 := by decide
    rw [hz, BitVec.xor_allOnes, BitVec.toNat_not, hv2, IntKind.wrap_i32]
    omega

theorem zg_lt {m : Int} (h0 : -2147483648 ≤ m) (h1 : m ≤ 2147483647) : zg m < 4294967296 := by unfold zg; split <;> omega

theorem unz_zg {m : Int} (h0 : -2147483648 ≤ m) (h1 : m ≤ 2147483647) : (if zg m % 2 = 0 then ((zg m / 2 : Nat) : Int) else -((zg m / 2 : Nat) : Int) - 1) = m := by
  unfold zg
  split <;> split <;> omega

theorem glong_enc {m : Int} {rest : List Int} (h0 : -2147483648 ≤ m) (h1 : m ≤ 2147483647) (hb : bytesB rest = true) : glongN (enc (zg m) ++ rest, false, ()) = some (m, (rest, false, ()), ()) := by
  have hz := zg_lt h0 h1
  unfold glongN
  rw [get_enc (by omega) hb (by omega) (by omega)]
  simp only [Option.bind_some, unzig (zg m) hz, unz_zg h0 h1]

def encs (l : List Int) : List Int := l.flatMap fun u => enc u.toNat
def longs (g : List Int) : List Int := g.flatMap fun m => enc (zg m)

def u32s (l : List Int) : Prop := ∀ u ∈ l, 0 ≤ u ∧ u < 4294967296
def i32s (l : List Int) : Prop := ∀ u ∈ l, -2147483648 ≤ u ∧ u ≤ 2147483647

theorem back_put (l : List Int) (hu : u32s l) : ∀ (m pre : List Int) (b : List Int) (k : Nat), l.take 50 = pre ++ m → b.length ≤ 100 * pre.length →
    loopF (bitsBackL1 l) (k + m.length + 1) (b, (pre.length : Int), ()) = some (.inl (b ++ encs m, ()))
  | [], pre, b, k, hl, hb => by
    rw [List.append_nil] at hl
    have he := at_endN hl
    rw [List.length_nil, loopF, bitsBackL1]
    by_cases h : pre.length < l.length
    · have h2 : ¬ ((pre.length : Int) < 50) := by omega
      simp [h, h2, encs]
    · simp [h, encs]
  | x :: m, pre, b, k, hl, hb => by
    obtain ⟨h1, h2, h3⟩ := at_getN (d := (0 : Int)) hl
    have hx : x ∈ l := List.mem_of_mem_take (i := 50) (by rw [hl]; simp)
    obtain ⟨u0, u1⟩ := hu x hx
    have hl' : l.take 50 = (pre ++ [x]) ++ m := by rw [hl]; simp
    have hw : IntKind.i64.wrap ((pre.length : Int) + 1) = (((pre ++ [x]).length : Nat) : Int) := by rw [w64 (by omega) (by omega)]; simp
    have hwx : IntKind.i64.wrap x = x := w64 (by omega) (by omega)
    have hle := enc_length x.toNat
    have ih := back_put l hu m (pre ++ [x]) (b ++ enc x.toNat) k hl' (by simp; omega)
    rw [List.length_cons, ← Nat.add_assoc, loopF, bitsBackL1]
    simp only [Int.toNat_natCast, h3, hw, hwx, decide_eq_true (show (pre.length : Int) < (l.length : Int) by omega), decide_eq_true (show (pre.length : Int) < 50 by omega), decide_eq_true (show (0 : Int) ≤ (pre.length : Int) by omega), Bool.and_self, cond_true]
    rw [put_eq (by omega) (by omega)]
    simp only [Option.bind_some]
    rw [ih]
    simp [encs]

theorem back_long (g : List Int) (hu : i32s g) : ∀ (m pre : List Int) (b : List Int) (k : Nat), g.take 50 = pre ++ m → b.length ≤ 100000 + 100 * pre.length →
    loopF (bitsBackL2 g) (k + m.length + 1) (b, (pre.length : Int), ()) = some (.inl (b ++ longs m, ()))
  | [], pre, b, k, hl, hb => by
    rw [List.append_nil] at hl
    have he := at_endN hl
    rw [List.length_nil, loopF, bitsBackL2]
    by_cases h : pre.length < g.length
    · have h2 : ¬ ((pre.length : Int) < 50) := by omega
      simp [h, h2, longs]
    · simp [h, longs]
  | x :: m, pre, b, k, hl, hb => by
    obtain ⟨h1, h2, h3⟩ := at_getN (d := (0 : Int)) hl
    have hx : x ∈ g := List.mem_of_mem_take (i := 50) (by rw [hl]; simp)
    obtain ⟨u0, u1⟩ := hu x hx
    have hl' : g.take 50 = (pre ++ [x]) ++ m := by rw [hl]; simp
    have hw : IntKind.i64.wrap ((pre.length : Int) + 1) = (((pre ++ [x]).length : Nat) : Int) := by rw [w64 (by omega) (by omega)]; simp
    have hle := enc_length (zg x)
    have ih := back_long g hu m (pre ++ [x]) (b ++ enc (zg x)) k hl' (by simp; omega)
    rw [List.length_cons, ← Nat.add_assoc, loopF, bitsBackL2]
    simp only [Int.toNat_natCast, h3, hw, decide_eq_true (show (pre.length : Int) < (g.length : Int) by omega), decide_eq_true (show (pre.length : Int) < 50 by omega), decide_eq_true (show (0 : Int) ≤ (pre.length : Int) by omega), Bool.and_self, cond_true]
    rw [longN_eq (by omega) u0 u1]
    simp only [Option.bind_some]
    rw [ih]
    simp [longs]

theorem longs_bytes : ∀ {g : List Int}, i32s g → bytesB (longs g) = true
  | [], _ => rfl
  | x :: g, h => by
    have hx := h x (by simp)
    have hz := zg_lt hx.1 hx.2
    have ih := longs_bytes (g := g) fun y hy => h y (by simp [hy])
    show bytesB (enc (zg x) ++ longs g) = true
    rw [bytesB_append, enc_bytes (by omega), ih]; rfl

theorem encs_bytes : ∀ {l : List Int}, u32s l → bytesB (encs l) = true
  | [], _ => rfl
  | x :: l, h => by
    have hx := h x (by simp)
    have ih := encs_bytes (l := l) fun y hy => h y (by simp [hy])
    show bytesB (enc x.toNat ++ encs l) = true
    rw [bytesB_append, enc_bytes (by omega), ih]; rfl

theorem back_get (l : List Int) (hu : u32s l) (rest : List Int) (hr : bytesB rest = true) : ∀ (m pre : List Int) (k : Nat), l.take 50 = pre ++ m →
    loopF (bitsBackL3 l) (k + m.length + 1) ((pre.length : Int), (encs m ++ rest, false, ()), ()) = some (.inl ((rest, false, ()), ()))
  | [], pre, k, hl => by
    rw [List.append_nil] at hl
    have he := at_endN hl
    rw [List.length_nil, loopF, bitsBackL3]
    by_cases h : pre.length < l.length
    · have h2 : ¬ ((pre.length : Int) < 50) := by omega
      simp [h, h2, encs]
    · simp [h, encs]
  | x :: m, pre, k, hl => by
    obtain ⟨h1, h2, h3⟩ := at_getN (d := (0 : Int)) hl
    have hx : x ∈ l := List.mem_of_mem_take (i := 50) (by rw [hl]; simp)
    have hm : u32s m := fun y hy => hu y (List.mem_of_mem_take (i := 50) (by rw [hl]; simp [hy]))
    obtain ⟨u0, u1⟩ := hu x hx
    have hl' : l.take 50 = (pre ++ [x]) ++ m := by rw [hl]; simp
    have hw : IntKind.i64.wrap ((pre.length : Int) + 1) = (((pre ++ [x]).length : Nat) : Int) := by rw [w64 (by omega) (by omega)]; simp
    have hwx : IntKind.i64.wrap x = x := w64 (by omega) (by omega)
    have ih := back_get l hu rest hr m (pre ++ [x]) k hl'
    rw [List.length_cons, ← Nat.add_assoc, loopF, bitsBackL3]
    have hs : encs (x :: m) ++ rest = enc x.toNat ++ (encs m ++ rest) := by simp [encs]
    have hxn : ((x.toNat : Nat) : Int) = x := by omega
    simp only [Int.toNat_natCast, h3, hw, hwx, decide_eq_true (show (pre.length : Int) < (l.length : Int) by omega), decide_eq_true (show (pre.length : Int) < 50 by omega), decide_eq_true (show (0 : Int) ≤ (pre.length : Int) by omega), Bool.and_self, cond_true]
    rw [hs, get_enc (v := x.toNat) (by omega) (by rw [bytesB_append, encs_bytes hm, hr]; rfl) (by omega) (by omega), hxn]
    simp only [Option.bind_some, bne_self_eq_false, cond_false]
    exact ih

theorem back_glong (g : List Int) (hu : i32s g) : ∀ (m pre : List Int) (k : Nat), g.take 50 = pre ++ m →
    loopF (bitsBackL4 g) (k + m.length + 1) ((pre.length : Int), (longs m, false, ()), ()) = some (true, ())
  | [], pre, k, hl => by
    rw [List.append_nil] at hl
    have he := at_endN hl
    have hf : finN ([], false, ()) = some (true, ([], false, ()), ()) := rfl
    rw [List.length_nil, loopF, bitsBackL4]
    by_cases h : pre.length < g.length
    · have h2 : ¬ ((pre.length : Int) < 50) := by omega
      simp [h, h2, longs, awake2_eq, hf]
    · simp [h, longs, awake2_eq, hf]
  | x :: m, pre, k, hl => by
    obtain ⟨h1, h2, h3⟩ := at_getN (d := (0 : Int)) hl
    have hx : x ∈ g := List.mem_of_mem_take (i := 50) (by rw [hl]; simp)
    have hm : i32s m := fun y hy => hu y (List.mem_of_mem_take (i := 50) (by rw [hl]; simp [hy]))
    obtain ⟨u0, u1⟩ := hu x hx
    have hl' : g.take 50 = (pre ++ [x]) ++ m := by rw [hl]; simp
    have hw : IntKind.i64.wrap ((pre.length : Int) + 1) = (((pre ++ [x]).length : Nat) : Int) := by rw [w64 (by omega) (by omega)]; simp
    have ih := back_glong g hu m (pre ++ [x]) k hl'
    rw [List.length_cons, ← Nat.add_assoc, loopF, bitsBackL4]
    have hs : longs (x :: m) = enc (zg x) ++ longs m := by simp [longs]
    simp only [Int.toNat_natCast, h3, hw, decide_eq_true (show (pre.length : Int) < (g.length : Int) by omega), decide_eq_true (show (pre.length : Int) < 50 by omega), decide_eq_true (show (0 : Int) ≤ (pre.length : Int) by omega), Bool.and_self, cond_true]
    rw [hs, glong_enc u0 u1 (longs_bytes hm)]
    simp only [Option.bind_some, bne_self_eq_false, cond_false]
    exact ih

theorem encs_length : ∀ l : List Int, (encs l).length ≤ 11 * l.length
  | [] => by simp [encs]
  | x :: l => by
    have := enc_length x.toNat
    have ih := encs_length l
    have hs : encs (x :: l) = enc x.toNat ++ encs l := by simp [encs]
    rw [hs, List.length_append, List.length_cons]; omega

theorem bitsBack_law (l g : List Int) (hl : u32s l) (hg : i32s g) : ∃ k, bitsBackN k l g = some (true, ()) := by
  refine ⟨(g.take 50).length + (l.take 50).length + 1, ?_⟩
  have p1 := back_put l hl (l.take 50) [] [] (g.take 50).length rfl (by simp)
  have el := encs_length (l.take 50)
  have l50 : (l.take 50).length ≤ 50 := by simp; omega
  have p2 := back_long g hg (g.take 50) [] (encs (l.take 50)) (l.take 50).length rfl (by simp; omega)
  have hg50 : i32s (g.take 50) := fun y hy => hg y (List.mem_of_mem_take hy)
  have p3 := back_get l hl (longs (g.take 50)) (longs_bytes hg50) (l.take 50) [] (g.take 50).length rfl
  have p4 := back_glong g hg (g.take 50) [] (l.take 50).length rfl
  rw [Nat.add_comm (l.take 50).length] at p2 p4
  unfold bitsBackN
  have q1 : loopF (bitsBackL1 l) ((g.take 50).length + (l.take 50).length + 1) (([] : List Int), ((0 : Int), ())) = some (.inl (encs (l.take 50), ())) := p1
  rw [q1]
  simp only [Option.bind_some]
  have q2 : loopF (bitsBackL2 g) ((g.take 50).length + (l.take 50).length + 1) (encs (l.take 50), ((0 : Int), ())) = some (.inl (encs (l.take 50) ++ longs (g.take 50), ())) := p2
  rw [q2]
  simp only [Option.bind_some]
  have q3 : loopF (bitsBackL3 l) ((g.take 50).length + (l.take 50).length + 1) ((0 : Int), newN (encs (l.take 50) ++ longs (g.take 50)), ()) = some (.inl ((longs (g.take 50), false, ()), ())) := p3
  rw [q3]
  exact p4

end Go.Pli

namespace Go.Pli
open Go Go.PM

theorem str_list (l : List Int) : (strOfNums l).toList = l.map fun n => UInt8.ofNat n.toNat := by
  rw [ByteArray.toList_eq, strOfNums_data]

theorem bytes_back : ∀ {l : List Int}, bytesB l = true → (l.map fun n => UInt8.ofNat n.toNat).map (fun u => (u.toNat : Int)) = l
  | [], _ => rfl
  | x :: l, h => by
    simp only [bytesB, List.all_cons, Bool.and_eq_true, decide_eq_true_eq] at h
    have ih := bytes_back (l := l) (by simpa [bytesB] using h.2)
    rw [List.map_cons, List.map_cons, ih]
    congr 1
    have : (UInt8.ofNat x.toNat).toNat = x.toNat := by
      rw [UInt8.toNat_ofNat']
      omega
    rw [this]; omega

theorem str_inj {a b : List Int} (ha : bytesB a = true) (hb : bytesB b = true) (h : (strOfNums a).toList = (strOfNums b).toList) : a = b := by
  rw [str_list, str_list] at h
  rw [← bytes_back ha, ← bytes_back hb, h]

theorem str_eq {a b : List Int} (ha : bytesB a = true) (hb : bytesB b = true) : ((strOfNums a).toList == (strOfNums b).toList) = decide (a = b) := by
  by_cases h : a = b
  · subst h; simp
  · have : ¬ (strOfNums a).toList = (strOfNums b).toList := fun hh => h (str_inj ha hb hh)
    rw [decide_eq_false h]
    simpa using this

theorem enc_inj {v w : Nat} (hv : v < 128 ^ 5) (hw : w < 128 ^ 5) (h : enc v = enc w) : v = w := by
  have a1 : enc v = encF 4 v := encF_le hv (by omega)
  have a2 : enc w = encF 4 w := encF_le hw (by omega)
  have e1 := decF_encF 5 4 0 0 v [] (by omega) hv hv (.inl rfl)
  have e2 := decF_encF 5 4 0 0 w [] (by omega) hw hw (.inl rfl)
  rw [← a1, h, a2, e2] at e1
  simp only [Option.some.injEq, Prod.mk.injEq] at e1
  omega

theorem encF_pos (j v : Nat) : 1 ≤ (encF j v).length := by
  cases j with
  | zero => simp [encF]
  | succ j => rw [encF]; split <;> simp

theorem short_bytes (r1 : List Int × Unit) (hlen : r1.1.length < 1000) : ∀ (j v : Nat) (pre : List Int) (k : Nat), v < 128 ^ (j + 1) → r1.1 = pre ++ encF j v → loopF (bitsShortL1 r1) (k + j + 2) ((pre.length : Int), ()) = some (true, ())
  | j, v, pre, k, hv, hl => by
    have hget : ∀ (c : Int) (t : List Int), encF j v = c :: t → r1.1.getD pre.length 0 = c := fun c t hc => by
      rw [hl, hc, List.getD_eq_getElem?_getD, List.getElem?_append_right (by omega)]; simp
    have hp := encF_pos j v
    have hll : r1.1.length = pre.length + (encF j v).length := by rw [hl]; simp
    have hw1 : IntKind.i64.wrap ((pre.length : Int) + 1) = ((pre.length + 1 : Nat) : Int) := by rw [w64 (by omega) (by omega)]; simp
    have hw2 : IntKind.i64.wrap ((r1.1.length : Int) - 1) = (r1.1.length : Int) - 1 := w64 (by omega) (by omega)
    rw [show k + j + 2 = (k + j + 1) + 1 from rfl, loopF, bitsShortL1]
    by_cases h : v < 128
    · have hg := hget (v : Int) [] (encF_small h)
      rw [encF_small h] at hll
      simp only [Int.toNat_natCast, hg, hw1, hw2, decide_eq_true (show (pre.length : Int) < (r1.1.length : Int) by simp at hll; omega), decide_eq_true (show (0 : Int) ≤ (pre.length : Int) by omega), Bool.and_self, cond_true,
        decide_eq_false (show ¬ ((v : Int) ≥ 128) by omega), decide_eq_false (show ¬ ((pre.length : Int) < (r1.1.length : Int) - 1) by simp at hll; omega), beq_self_eq_true, Bool.not_true, cond_false]
      rw [loopF, bitsShortL1]
      simp only [decide_eq_false (show ¬ (((pre.length + 1 : Nat) : Int) < (r1.1.length : Int)) by simp at hll; omega), cond_false, awake2_eq]
      rfl
    · cases j with
      | zero => simp at hv; omega
      | succ j =>
        have hc : encF (j + 1) v = ((128 + v % 128 : Nat) : Int) :: encF j (v / 128) := by rw [encF, if_neg h]
        have hg := hget _ _ hc
        have hp2 := encF_pos j (v / 128)
        rw [hc, List.length_cons] at hll
        have ih := short_bytes r1 hlen j (v / 128) (pre ++ [((128 + v % 128 : Nat) : Int)]) k (by rw [Nat.div_lt_iff_lt_mul (by omega)]; rw [Nat.pow_succ] at hv; exact hv) (by rw [hl, hc]; simp)
        simp only [Int.toNat_natCast, hg, hw1, hw2, decide_eq_true (show (pre.length : Int) < (r1.1.length : Int) by omega), decide_eq_true (show (0 : Int) ≤ (pre.length : Int) by omega), Bool.and_self, cond_true,
          decide_eq_true (show (((128 + v % 128 : Nat) : Int) ≥ 128) by omega), decide_eq_true (show ((pre.length : Int) < (r1.1.length : Int) - 1) by omega), beq_self_eq_true, Bool.not_true, cond_false]
        have hpl : ((pre.length + 1 : Nat) : Int) = (((pre ++ [((128 + v % 128 : Nat) : Int)]).length : Nat) : Int) := by simp
        rw [hpl]
        exact ih
termination_by j => j

theorem short_size (a b : Int) (F : Nat) (r1 r2 : List Int × Unit) (hx : (((strOfNums r1.1).toList == (strOfNums r2.1).toList) == (a == b)) = true) (hin : loopF (bitsShortL1 r1) F ((0 : Int), ()) = some (true, ())) :
    ∀ (j v s k : Nat), v < 128 ^ (j + 1) → s + j < 1000 → v < 9223372036854775808 → r1.1.length + 1 = s + (encF j v).length → loopF (bitsShortL2 a b F r1 r2) (k + j + 1) ((s : Int), (v : Int), ()) = some (true, ())
  | j, v, s, k, hv, hs, hv2, hl => by
    rw [loopF, bitsShortL2]
    by_cases h : v < 128
    · rw [encF_small h] at hl
      have hsz : ((r1.1.length : Int) != (s : Int)) = false := by simp at hl; simp; omega
      simp only [decide_eq_false (show ¬ ((v : Int) ≥ 128) by omega), cond_false, hsz, hx, Bool.not_true]
      exact hin
    · cases j with
      | zero => simp at hv; omega
      | succ j =>
        have hc : encF (j + 1) v = ((128 + v % 128 : Nat) : Int) :: encF j (v / 128) := by rw [encF, if_neg h]
        rw [hc, List.length_cons] at hl
        have ih := short_size a b F r1 r2 hx hin j (v / 128) (s + 1) k (by rw [Nat.div_lt_iff_lt_mul (by omega)]; rw [Nat.pow_succ] at hv; exact hv)
        have hq : (v : Int).tdiv 128 = ((v / 128 : Nat) : Int) := by rw [Int.tdiv_eq_ediv_of_nonneg (by omega)]; omega
        have hw : IntKind.i64.wrap ((v / 128 : Nat) : Int) = ((v / 128 : Nat) : Int) := w64 (by omega) (by omega)
        have hw2 : IntKind.i64.wrap ((s : Int) + 1) = ((s + 1 : Nat) : Int) := by rw [w64 (by omega) (by omega)]; simp
        simp only [decide_eq_true (show ((v : Int) ≥ 128) by omega), cond_true, hq, hw, hw2]
        rw [show k + (j + 1) = k + j + 1 from rfl]
        exact ih (by omega) (by omega) (by omega)
termination_by j => j

theorem bitsShort_law (a b : Int) (ha : 0 ≤ a ∧ a < 4294967296) (hb : 0 ≤ b ∧ b < 4294967296) : ∃ k, bitsShortN k a b = some (true, ()) := by
  have wa : IntKind.i64.wrap a = a := w64 (by omega) (by omega)
  have wb : IntKind.i64.wrap b = b := w64 (by omega) (by omega)
  have la := enc_length a.toNat
  have ea : enc a.toNat = encF 4 a.toNat := encF_le (by omega) (by omega)
  have hin : loopF (bitsShortL1 (enc a.toNat, ())) 6 ((0 : Int), ()) = some (true, ()) :=
    short_bytes (enc a.toNat, ()) (by simp only; omega) 4 a.toNat [] 0 (by omega) (by simp [ea])
  have hx : (((strOfNums (enc a.toNat)).toList == (strOfNums (enc b.toNat)).toList) == (a == b)) = true := by
    rw [str_eq (enc_bytes (by omega)) (enc_bytes (by omega))]
    by_cases h : a = b
    · subst h; simp
    · have h2 : ¬ enc a.toNat = enc b.toNat := fun hh => h (by have := enc_inj (by omega) (by omega) hh; omega)
      have h3 : (a == b) = false := by simpa using h
      rw [decide_eq_false h2, h3]; rfl
  refine ⟨6, ?_⟩
  unfold bitsShortN
  rw [wa, wb, put_eq (by simp) (by omega), put_eq (by simp) (by omega)]
  simp only [Option.bind_some, List.nil_append]
  have := short_size a b 6 (enc a.toNat, ()) (enc b.toNat, ()) hx hin 4 a.toNat 1 1 (by omega) (by omega) (by omega) (by simp only [ea]; omega)
  have han : ((a.toNat : Nat) : Int) = a := by omega
  rw [han] at this
  exact this

end Go.Pli

namespace Go.Pli
open Go Go.PM

theorem read_both {l : List Int} {n : Int} (hb : bytesB l = true) (h0 : 0 ≤ n) (h1 : n < 9223372036854775808) :
    (∃ v m : Nat, rnext l = some ((v : Int), (m : Int), ()) ∧ 1 ≤ m ∧ m ≤ l.length ∧ l.take m = enc v ∧ v < 128 ^ 5 ∧ (v : Int) ≤ n ∧ getN (l, false, ()) n = some ((v : Int), (l.drop m, false, ()), ())) ∨
    (∃ (x y : Int) (l' : List Int), rnext l = some (x, y, ()) ∧ ¬ (y > 0 ∧ x ≤ n) ∧ getN (l, false, ()) n = some (0, (l', true, ()), ())) := by
  have hbs : bytesB (l.take 5) = true := bytesB_take 5 hb
  unfold getN next rnext
  simp only [hbs, cond_true, cond_false]
  have hw : IntKind.u64.wrap n = n := by rw [IntKind.wrap_u64]; omega
  have hn0 : decide (n < 0) = false := decide_eq_false (by omega)
  cases hd : decF 5 0 0 l with
  | none => exact .inr ⟨0, 0, l, rfl, by omega, rfl⟩
  | some x =>
    obtain ⟨y, m, ok⟩ := x
    cases ok with
    | false => exact .inr ⟨0, 0, l.drop m, rfl, by omega, rfl⟩
    | true =>
      obtain ⟨v, m', e1, e2, e3, e4, e5, e6, e7⟩ := decF_inv 5 0 0 l y m hbs hd
      have hy : y = v := by omega
      have hm : m = m' := by omega
      subst hy; subst hm
      simp only [Option.bind_some, Bool.not_true, cond_false, hn0, hw]
      by_cases hgt : (y : Int) > n
      · rw [decide_eq_true hgt]
        exact .inr ⟨_, _, l.drop m, rfl, by omega, rfl⟩
      · rw [decide_eq_false hgt]
        have hw2 : IntKind.i64.wrap (y : Int) = y := w64 (by omega) (by omega)
        refine .inl ⟨y, m, rfl, e3, e4, ?_, by omega, by omega, by simp only [cond_false, hw2]⟩
        rw [e5]
        exact (encF_le e6 (by omega)).symm

theorem glong_bad (l : List Int) : glongN (l, true, ()) = some (0, (l, true, ()), ()) := by
  have h : getN (l, true, ()) (4294967295 : Int) = some (((0 : Nat) : Int), (l, true, ()), ()) := rfl
  unfold glongN
  rw [h]
  simp only [Option.bind_some, unzig 0 (by omega)]
  rfl

def unz (v : Nat) : Int := if v % 2 = 0 then ((v / 2 : Nat) : Int) else -((v / 2 : Nat) : Int) - 1

theorem glong_of {l l' : List Int} {bad : Bool} {v : Nat} (h : getN (l, false, ()) (4294967295 : Int) = some ((v : Int), (l', bad, ()), ())) (hv : v < 4294967296) : glongN (l, false, ()) = some (unz v, (l', bad, ()), ()) := by
  unfold glongN
  rw [h]
  simp only [Option.bind_some, unzig v hv]
  rfl

theorem zg_unz {v : Nat} (hv : v < 4294967296) : zg (unz v) = v ∧ -2147483648 ≤ unz v ∧ unz v ≤ 2147483647 := by
  unfold zg unz
  refine ⟨?_, ?_, ?_⟩ <;> split <;> (try split) <;> omega

structure GInv (s : List Int) (at_ : Nat) (bad : Bool) (r : Rd) : Prop where
  le : at_ ≤ s.length
  rd : r = (if bad then r.1 else s.drop at_, bad, ())

theorem ginv_good {s : List Int} {at_ : Nat} (h : at_ ≤ s.length) : GInv s at_ false (s.drop at_, false, ()) := ⟨h, rfl⟩
theorem ginv_bad {s : List Int} {at_ : Nat} (l' : List Int) (h : at_ ≤ s.length) : GInv s at_ true (l', true, ()) := ⟨h, rfl⟩

def u16s (l : List Int) : Prop := ∀ u ∈ l, 0 ≤ u ∧ u < 65536

theorem gets_step (l s : List Int) (hs : bytesB s = true) (hsl : s.length ≤ 200) (rec4 : Int × Bool × Int × Rd × Unit → Option (Bool × Unit)) (pre m : List Int) (u : Int) (hl : l.take 60 = pre ++ u :: m) (hu : 0 ≤ u ∧ u < 65536)
    (at_ : Nat) (bad : Bool) (r : Rd) (hi : GInv s at_ bad r) : ∃ (at' : Nat) (bad' : Bool) (r' : Rd), GInv s at' bad' r' ∧ bitsGetsL1 l (s, ()) ((at_ : Int), bad, (pre.length : Int), r, ()) rec4 = rec4 ((at' : Int), bad', ((pre ++ [u]).length : Int), r', ()) := by
  obtain ⟨h1, h2, h3⟩ := at_getN (d := (0 : Int)) hl
  have hw : IntKind.i64.wrap ((pre.length : Int) + 1) = (((pre ++ [u]).length : Nat) : Int) := by rw [w64 (by omega) (by omega)]; simp
  have hwu : IntKind.i64.wrap u = u := w64 (by omega) (by omega)
  have hle := hi.le
  have hbd : bytesB (s.drop at_) = true := bytesB_drop at_ hs
  have hne : ∀ (at' : Nat) (bad' : Bool) (r' : Rd), GInv s at' bad' r' → (badN r').1 = bad' ∧ (badN r').2.1 = r' ∧ finN r' = some (!bad' && decide (at' = s.length), r', ()) := by
    intro at' bad' r' h
    have hr := h.rd
    cases bad'
    · simp only [Bool.false_eq_true, if_false] at hr
      subst hr
      refine ⟨rfl, rfl, ?_⟩
      show some (((s.drop at').length : Int) == 0, _, ()) = _
      have : (((s.drop at').length : Int) == 0) = decide (at' = s.length) := by
        have hle2 := h.le
        by_cases hh : at' = s.length
        · subst hh; simp
        · rw [decide_eq_false hh]; simp; omega
      rw [this]; rfl
    · simp only [if_true] at hr
      rw [hr]
      exact ⟨rfl, rfl, rfl⟩
  have hlen : decide ((pre.length : Int) < (l.length : Int)) = true := decide_eq_true (by omega)
  have h60 : decide ((pre.length : Int) < 60) = true := decide_eq_true (by omega)
  have h0 : decide ((0 : Int) ≤ (pre.length : Int)) = true := decide_eq_true (by omega)
  have ha0 : decide ((0 : Int) ≤ (at_ : Int)) = true := decide_eq_true (by omega)
  have ha1 : decide ((at_ : Int) ≤ (s.length : Int)) = true := decide_eq_true (by omega)
  have ha2 : decide ((s.length : Int) ≤ (s.length : Int)) = true := decide_eq_true (by omega)
  have hfin : ∀ (at' : Nat) (bad' : Bool) (r' : Rd), GInv s at' bad' r' → (let r17 := badN r'
        bif !(r17.1 == bad') then
            some (.inr (false, ()))
          else
            (finN r17.2.1).bind fun r18 =>
            bif !bad' then
              bif !(r18.1 == ((at' : Int) == (s.length : Int))) then
                some (.inr (false, ()))
              else some (.inl ((at' : Int), bad', r18.2.1, ()))
            else bif !(r18.1 == false) then
              some (.inr (false, ()))
            else some (.inl ((at' : Int), bad', r18.2.1, ())) : Option ((Int × Bool × Rd × Unit) ⊕ (Bool × Unit))) = some (.inl ((at' : Int), bad', r', ())) := by
    intro at' bad' r' h
    obtain ⟨e1, e2, e3⟩ := hne at' bad' r' h
    have hat : ((at' : Int) == (s.length : Int)) = decide (at' = s.length) := by
      by_cases hh : at' = s.length
      · subst hh; simp
      · rw [decide_eq_false hh]; simp; omega
    simp only [e1, e2, e3, beq_self_eq_true, Bool.not_true, cond_false, Option.bind_some, hat]
    cases bad' <;> simp
  rw [bitsGetsL1]
  simp only [hlen, h60, h0, ha0, ha1, ha2, Bool.and_self, cond_true, List.take_length, Int.toNat_natCast, h3, hw, hwu]
  cases bad with
  | true =>
    have hr := hi.rd
    simp only [if_true] at hr
    obtain ⟨x, y, hrn⟩ : ∃ x y, rnext (s.drop at_) = some (x, y, ()) := by
      rcases read_both (n := 0) hbd (by omega) (by omega) with ⟨v, m', e, _⟩ | ⟨x, y, _, e, _⟩
      · exact ⟨_, _, e⟩
      · exact ⟨_, _, e⟩
    refine ⟨at_, true, r, hi, ?_⟩
    rw [hr]
    simp only [hrn, Option.bind_some, glong_bad, Bool.not_true, cond_false]
    have hg : getN (r.1, true, ()) u = some (0, (r.1, true, ()), ()) := rfl
    rw [hg]
    have hf := hfin at_ true (r.1, true, ()) (by rw [← hr]; exact hi)
    cases u == 0
    · simp only [cond_false, Option.bind_some, bne_self_eq_false]
      exact (congrArg (fun z => Option.bind z _) hf).trans rfl
    · simp only [cond_true, Option.bind_some, bne_self_eq_false, cond_false]
      exact (congrArg (fun z => Option.bind z _) hf).trans rfl
  | false =>
    have hr := hi.rd
    simp only [Bool.false_eq_true, if_false] at hr
    rw [hr]
    have hcut : ∀ m' : Nat, (s.take (at_ + m')).drop at_ = (s.drop at_).take m' := fun m' => by rw [List.drop_take]; simp
    by_cases hz : u = 0
    · have hz' : (u == 0) = true := by simpa using hz
      rw [hz']
      rcases read_both (n := 4294967295) hbd (by omega) (by omega) with ⟨v, m', e1, e2, e3, e4, e5, e6, e7⟩ | ⟨x, y, l', e1, e2, e3⟩
      · have hv : v < 4294967296 := by omega
        obtain ⟨z1, z2, z3⟩ := zg_unz hv
        rw [List.length_drop] at e3
        refine ⟨at_ + m', false, (s.drop (at_ + m'), false, ()), ginv_good (by omega), ?_⟩
        have hwa : IntKind.i64.wrap ((at_ : Int) + (m' : Int)) = ((at_ + m' : Nat) : Int) := by rw [← Int.natCast_add]; exact w64 (by omega) (by omega)
        have hdd : (s.drop at_).drop m' = s.drop (at_ + m') := by rw [List.drop_drop]
        rw [hdd] at e7
        simp only [e1, Option.bind_some, cond_true, glong_of e7 hv, Bool.not_false, decide_eq_true (show (m' : Int) > 0 by omega), decide_eq_true (show (v : Int) < 4294967296 by omega), rsignedN_eq z2 z3, z1, hwa, Int.toNat_natCast, hcut, e4,
          decide_eq_true (show (at_ : Int) ≤ ((at_ + m' : Nat) : Int) by omega), decide_eq_true (show ((at_ + m' : Nat) : Int) ≤ (s.length : Int) by omega), Bool.and_self, beq_self_eq_true, Bool.not_true, cond_false]
        have hf := hfin (at_ + m') false (s.drop (at_ + m'), false, ()) (ginv_good (by omega))
        exact (congrArg (fun z => Option.bind z _) hf).trans rfl
      · refine ⟨at_, true, (l', true, ()), ginv_bad l' hle, ?_⟩
        have hcond : (bif decide (y > 0) then some (Sum.inl (decide (x < 4294967296), ())) else some (Sum.inl (false, ())) : Option ((Bool × Unit) ⊕ ((Int × Bool × Rd × Unit) ⊕ ((Int × Bool × Rd × Unit) ⊕ (Bool × Unit))))) = some (Sum.inl (false, ())) := by
          by_cases hy : y > 0
          · rw [decide_eq_true hy, decide_eq_false (show ¬ (x < 4294967296) by omega)]; rfl
          · rw [decide_eq_false hy]; rfl
        have hg := glong_of (v := 0) e3 (by omega)
        simp only [e1, Option.bind_some, cond_true, hg, Bool.not_false]
        rw [hcond]
        have hu0 : (unz 0 != 0) = false := rfl
        simp only [Option.bind_some, cond_false, hu0]
        have hf := hfin at_ true (l', true, ()) (ginv_bad l' hle)
        exact (congrArg (fun z => Option.bind z _) hf).trans rfl
    · have hz' : (u == 0) = false := by simpa using hz
      rw [hz']
      rcases read_both (n := u) hbd (by omega) (by omega) with ⟨v, m', e1, e2, e3, e4, e5, e6, e7⟩ | ⟨x, y, l', e1, e2, e3⟩
      · rw [List.length_drop] at e3
        refine ⟨at_ + m', false, (s.drop (at_ + m'), false, ()), ginv_good (by omega), ?_⟩
        have hwa : IntKind.i64.wrap ((at_ : Int) + (m' : Int)) = ((at_ + m' : Nat) : Int) := by rw [← Int.natCast_add]; exact w64 (by omega) (by omega)
        have hdd : (s.drop at_).drop m' = s.drop (at_ + m') := by rw [List.drop_drop]
        rw [hdd] at e7
        simp only [e1, Option.bind_some, cond_false, cond_true, e7, Bool.not_false, decide_eq_true (show (m' : Int) > 0 by omega), decide_eq_true e6, hwa, bne_self_eq_false]
        have hf := hfin (at_ + m') false (s.drop (at_ + m'), false, ()) (ginv_good (by omega))
        exact (congrArg (fun z => Option.bind z _) hf).trans rfl
      · refine ⟨at_, true, (l', true, ()), ginv_bad l' hle, ?_⟩
        have hcond : (bif decide (y > 0) then some (Sum.inl (decide (x ≤ u), ())) else some (Sum.inl (false, ())) : Option ((Bool × Unit) ⊕ ((Int × Bool × Rd × Unit) ⊕ ((Int × Bool × Rd × Unit) ⊕ (Bool × Unit))))) = some (Sum.inl (false, ())) := by
          by_cases hy : y > 0
          · rw [decide_eq_true hy, decide_eq_false (show ¬ (x ≤ u) by omega)]; rfl
          · rw [decide_eq_false hy]; rfl
        simp only [e1, Option.bind_some, cond_false, cond_true, e3, Bool.not_false]
        rw [hcond]
        simp only [Option.bind_some, cond_false, bne_self_eq_false]
        have hf := hfin at_ true (l', true, ()) (ginv_bad l' hle)
        exact (congrArg (fun z => Option.bind z _) hf).trans rfl

theorem gets_loop (l s : List Int) (hu : u16s l) (hs : bytesB s = true) (hsl : s.length ≤ 200) : ∀ (m pre : List Int) (at_ : Nat) (bad : Bool) (r : Rd), l.take 60 = pre ++ m → GInv s at_ bad r →
    loopF (bitsGetsL1 l (s, ())) (m.length + 1) ((at_ : Int), bad, (pre.length : Int), r, ()) = some (true, ())
  | [], pre, at_, bad, r, hl, hi => by
    rw [List.append_nil] at hl
    have he := at_endN hl
    rw [List.length_nil, loopF, bitsGetsL1, awake2_eq]
    by_cases h : pre.length < l.length
    · have h2 : ¬ ((pre.length : Int) < 60) := by omega
      simp [h, h2]
    · simp [h]
  | u :: m, pre, at_, bad, r, hl, hi => by
    have hx : u ∈ l := List.mem_of_mem_take (i := 60) (by rw [hl]; simp)
    obtain ⟨at', bad', r', hi', he⟩ := gets_step l s hs hsl (loopF (bitsGetsL1 l (s, ())) (m.length + 1)) pre m u hl (hu u hx) at_ bad r hi
    rw [List.length_cons, loopF, he]
    exact gets_loop l s hu hs hsl m (pre ++ [u]) at' bad' r' (by rw [hl]; simp) hi'

theorem bitsGets_law (b l : List Int) (hb : bytesB b = true) (hu : u16s l) : ∃ k, bitsGetsN k b l = some (true, ()) := by
  refine ⟨(l.take 60).length + 1, ?_⟩
  have key : ∀ s : List Int, bytesB s = true → s.length ≤ 200 → loopF (bitsGetsL1 l (s, ())) ((l.take 60).length + 1) ((0 : Int), false, ((0 : Int), (newN s), ())) = some (true, ()) := fun s hs hsl =>
    gets_loop l s hu hs hsl (l.take 60) [] 0 false (s, false, ()) rfl ⟨by omega, by simp⟩
  unfold bitsGetsN
  by_cases h : (b.length : Int) > 200
  · have h2 : (200 : Int) ≤ (b.length : Int) := by omega
    rw [decide_eq_true h, decide_eq_true h2]
    simp only [cond_true, Option.bind_some, List.drop_zero]
    exact key (b.take 200) (bytesB_take 200 hb) (by simp; omega)
  · rw [decide_eq_false h]
    simp only [cond_false, Option.bind_some]
    exact key b hb (by omega)

end Go.Pli
