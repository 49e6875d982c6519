/- The laws on bits, plain: there and back. -/
import Derived.Test.YtifcchajbahdiaaPliCodec
namespace Go.Pli
open Go Go.PM

theorem at_getN {α : Type} {N : Nat} {l pre m : List α} {x d : α} (hl : l.take N = pre ++ x :: m) : pre.length < l.length ∧ pre.length < N ∧ l.getD pre.length d = x := by
  have h1 : (l.take N)[pre.length]? = some x := by rw [hl]; simp
  rw [List.getElem?_take] at h1
  split at h1
  · rename_i hlt
    refine ⟨(List.getElem?_eq_some_iff.1 h1).1, hlt, ?_⟩
    rw [List.getD, h1]; rfl
  · cases h1

theorem at_endN {α : Type} {N : Nat} {l pre : List α} (hl : l.take N = pre) : ¬ (pre.length < l.length ∧ pre.length < N) := by
  rw [← hl, List.length_take]
  omega

theorem unzig (v : Nat) (h : v < 4294967296) : IntKind.i32.wrap ((BitVec.ofInt 32 (IntKind.i32.wrap ((IntKind.u32.wrap (v : Int)).fdiv 2)) ^^^ BitVec.ofInt 32 (IntKind.i32.wrap (0 - (IntKind.i32.wrap (IntKind.u32.wrap ((BitVec.ofInt 32 (IntKind.u32.wrap (v : Int)) &&& BitVec.ofInt 32 1).toNat)))))).toNat) = if v % 2 = 0 then ((v / 2 : Nat) : Int) else -((v / 2 : Nat) : Int) - 1 := by
  have h1 : IntKind.u32.wrap (v : Int) = v := by rw [IntKind.wrap_u32]; omega
  have h2 : ((v : Int)).fdiv 2 = ((v / 2 : Nat) : Int) := by rw [Int.fdiv_eq_ediv_of_nonneg _ (by omega)]; omega
  have h3 : IntKind.i32.wrap ((v / 2 : Nat) : Int) = ((v / 2 : Nat) : Int) := by rw [IntKind.wrap_i32]; omega
  have h4 : (BitVec.ofInt 32 (v : Int) &&& BitVec.ofInt 32 1).toNat = v % 2 := by
    have a1 : (BitVec.ofInt 32 (v : Int)).toNat = v := by simp; omega
    have a2 : (BitVec.ofInt 32 1).toNat = 1 := rfl
    rw [BitVec.toNat_and, a1, a2, Nat.and_one_is_mod]
  have h5 : IntKind.u32.wrap ((v % 2 : Nat) : Int) = ((v % 2 : Nat) : Int) := by rw [IntKind.wrap_u32]; omega
  have h6 : IntKind.i32.wrap ((v % 2 : Nat) : Int) = ((v % 2 : Nat) : Int) := by rw [IntKind.wrap_i32]; omega
  have hv2 : (BitVec.ofInt 32 ((v / 2 : Nat) : Int)).toNat = v / 2 := by simp; omega
  rw [h1, h2, h3, h4, h5, h6]
  by_cases hp : v % 2 = 0
  · rw [if_pos hp, hp]
    have hz : BitVec.ofInt 32 (IntKind.i32.wrap (0 - ((0 : Nat) : Int))) = 0#32 := by decide
    rw [hz, BitVec.xor_zero, hv2, IntKind.wrap_i32]
    omega
  · have hp1 : v % 2 = 1 := by omega
    rw [if_neg hp, hp1]
    have hz : BitVec.ofInt 32 (IntKind.i32.wrap (0 - ((1 : Nat) : Int))) = BitVec.allOnes 32 := by decide
    rw [hz, BitVec.xor_allOnes, BitVec.toNat_not, hv2, IntKind.wrap_i32]
    omega

theorem zg_lt {m : Int} (h0 : -2147483648 ≤ m) (h1 : m ≤ 2147483647) : zg m < 4294967296 := by unfold zg; split <;> omega

theorem unz_zg {m : Int} (h0 : -2147483648 ≤ m) (h1 : m ≤ 2147483647) : (if zg m % 2 = 0 then ((zg m / 2 : Nat) : Int) else -((zg m / 2 : Nat) : Int) - 1) = m := by
  unfold zg
  split <;> split <;> omega

theorem glong_enc {m : Int} {rest : List Int} (h0 : -2147483648 ≤ m) (h1 : m ≤ 2147483647) (hb : bytesB rest = true) : glongN (enc (zg m) ++ rest, false, ()) = some (m, (rest, false, ()), ()) := by
  have hz := zg_lt h0 h1
  unfold glongN
  rw [get_enc (by omega) hb (by omega) (by omega)]
  simp only [Option.bind_some, unzig (zg m) hz, unz_zg h0 h1]

def encs (l : List Int) : List Int := l.flatMap fun u => enc u.toNat
def longs (g : List Int) : List Int := g.flatMap fun m => enc (zg m)

def u32s (l : List Int) : Prop := ∀ u ∈ l, 0 ≤ u ∧ u < 4294967296
def i32s (l : List Int) : Prop := ∀ u ∈ l, -2147483648 ≤ u ∧ u ≤ 2147483647

theorem back_put (l : List Int) (hu : u32s l) : ∀ (m pre : List Int) (b : List Int) (k : Nat), l.take 50 = pre ++ m → b.length ≤ 100 * pre.length →
    loopF (bitsBackL1 l) (k + m.length + 1) (b, (pre.length : Int), ()) = some (.inl (b ++ encs m, ()))
  | [], pre, b, k, hl, hb => by
    rw [List.append_nil] at hl
    have he := at_endN hl
    rw [List.length_nil, loopF, bitsBackL1]
    by_cases h : pre.length < l.length
    · have h2 : ¬ ((pre.length : Int) < 50) := by omega
      simp [h, h2, encs]
    · simp [h, encs]
  | x :: m, pre, b, k, hl, hb => by
    obtain ⟨h1, h2, h3⟩ := at_getN (d := (0 : Int)) hl
    have hx : x ∈ l := List.mem_of_mem_take (i := 50) (by rw [hl]; simp)
    obtain ⟨u0, u1⟩ := hu x hx
    have hl' : l.take 50 = (pre ++ [x]) ++ m := by rw [hl]; simp
    have hw : IntKind.i64.wrap ((pre.length : Int) + 1) = (((pre ++ [x]).length : Nat) : Int) := by rw [w64 (by omega) (by omega)]; simp
    have hwx : IntKind.i64.wrap x = x := w64 (by omega) (by omega)
    have hle := enc_length x.toNat
    have ih := back_put l hu m (pre ++ [x]) (b ++ enc x.toNat) k hl' (by simp; omega)
    rw [List.length_cons, ← Nat.add_assoc, loopF, bitsBackL1]
    simp only [Int.toNat_natCast, h3, hw, hwx, decide_eq_true (show (pre.length : Int) < (l.length : Int) by omega), decide_eq_true (show (pre.length : Int) < 50 by omega), decide_eq_true (show (0 : Int) ≤ (pre.length : Int) by omega), Bool.and_self, cond_true]
    rw [put_eq (by omega) (by omega)]
    simp only [Option.bind_some]
    rw [ih]
    simp [encs]

theorem back_long (g : List Int) (hu : i32s g) : ∀ (m pre : List Int) (b : List Int) (k : Nat), g.take 50 = pre ++ m → b.length ≤ 100000 + 100 * pre.length →
    loopF (bitsBackL2 g) (k + m.length + 1) (b, (pre.length : Int), ()) = some (.inl (b ++ longs m, ()))
  | [], pre, b, k, hl, hb => by
    rw [List.append_nil] at hl
    have he := at_endN hl
    rw [List.length_nil, loopF, bitsBackL2]
    by_cases h : pre.length < g.length
    · have h2 : ¬ ((pre.length : Int) < 50) := by omega
      simp [h, h2, longs]
    · simp [h, longs]
  | x :: m, pre, b, k, hl, hb => by
    obtain ⟨h1, h2, h3⟩ := at_getN (d := (0 : Int)) hl
    have hx : x ∈ g := List.mem_of_mem_take (i := 50) (by rw [hl]; simp)
    obtain ⟨u0, u1⟩ := hu x hx
    have hl' : g.take 50 = (pre ++ [x]) ++ m := by rw [hl]; simp
    have hw : IntKind.i64.wrap ((pre.length : Int) + 1) = (((pre ++ [x]).length : Nat) : Int) := by rw [w64 (by omega) (by omega)]; simp
    have hle := enc_length (zg x)
    have ih := back_long g hu m (pre ++ [x]) (b ++ enc (zg x)) k hl' (by simp; omega)
    rw [List.length_cons, ← Nat.add_assoc, loopF, bitsBackL2]
    simp only [Int.toNat_natCast, h3, hw, decide_eq_true (show (pre.length : Int) < (g.length : Int) by omega), decide_eq_true (show (pre.length : Int) < 50 by omega), decide_eq_true (show (0 : Int) ≤ (pre.length : Int) by omega), Bool.and_self, cond_true]
    rw [longN_eq (by omega) u0 u1]
    simp only [Option.bind_some]
    rw [ih]
    simp [longs]

theorem longs_bytes : ∀ {g : List Int}, i32s g → bytesB (longs g) = true
  | [], _ => rfl
  | x :: g, h => by
    have hx := h x (by simp)
    have hz := zg_lt hx.1 hx.2
    have ih := longs_bytes (g := g) fun y hy => h y (by simp [hy])
    show bytesB (enc (zg x) ++ longs g) = true
    rw [bytesB_append, enc_bytes (by omega), ih]; rfl

theorem encs_bytes : ∀ {l : List Int}, u32s l → bytesB (encs l) = true
  | [], _ => rfl
  | x :: l, h => by
    have hx := h x (by simp)
    have ih := encs_bytes (l := l) fun y hy => h y (by simp [hy])
    show bytesB (enc x.toNat ++ encs l) = true
    rw [bytesB_append, enc_bytes (by omega), ih]; rfl

theorem back_get (l : List Int) (hu : u32s l) (rest : List Int) (hr : bytesB rest = true) : ∀ (m pre : List Int) (k : Nat), l.take 50 = pre ++ m →
    loopF (bitsBackL3 l) (k + m.length + 1) ((pre.length : Int), (encs m ++ rest, false, ()), ()) = some (.inl ((rest, false, ()), ()))
  | [], pre, k, hl => by
    rw [List.append_nil] at hl
    have he := at_endN hl
    rw [List.length_nil, loopF, bitsBackL3]
    by_cases h : pre.length < l.length
    · have h2 : ¬ ((pre.length : Int) < 50) := by omega
      simp [h, h2, encs]
    · simp [h, encs]
  | x :: m, pre, k, hl => by
    obtain ⟨h1, h2, h3⟩ := at_getN (d := (0 : Int)) hl
    have hx : x ∈ l := List.mem_of_mem_take (i := 50) (by rw [hl]; simp)
    have hm : u32s m := fun y hy => hu y (List.mem_of_mem_take (i := 50) (by rw [hl]; simp [hy]))
    obtain ⟨u0, u1⟩ := hu x hx
    have hl' : l.take 50 = (pre ++ [x]) ++ m := by rw [hl]; simp
    have hw : IntKind.i64.wrap ((pre.length : Int) + 1) = (((pre ++ [x]).length : Nat) : Int) := by rw [w64 (by omega) (by omega)]; simp
    have hwx : IntKind.i64.wrap x = x := w64 (by omega) (by omega)
    have ih := back_get l hu rest hr m (pre ++ [x]) k hl'
    rw [List.length_cons, ← Nat.add_assoc, loopF, bitsBackL3]
    have hs : encs (x :: m) ++ rest = enc x.toNat ++ (encs m ++ rest) := by simp [encs]
    have hxn : ((x.toNat : Nat) : Int) = x := by omega
    simp only [Int.toNat_natCast, h3, hw, hwx, decide_eq_true (show (pre.length : Int) < (l.length : Int) by omega), decide_eq_true (show (pre.length : Int) < 50 by omega), decide_eq_true (show (0 : Int) ≤ (pre.length : Int) by omega), Bool.and_self, cond_true]
    rw [hs, get_enc (v := x.toNat) (by omega) (by rw [bytesB_append, encs_bytes hm, hr]; rfl) (by omega) (by omega), hxn]
    simp only [Option.bind_some, bne_self_eq_false, cond_false]
    exact ih

theorem back_glong (g : List Int) (hu : i32s g) : ∀ (m pre : List Int) (k : Nat), g.take 50 = pre ++ m →
    loopF (bitsBackL4 g) (k + m.length + 1) ((pre.length : Int), (longs m, false, ()), ()) = some (true, ())
  | [], pre, k, hl => by
    rw [List.append_nil] at hl
    have he := at_endN hl
    have hf : finN ([], false, ()) = some (true, ([], false, ()), ()) := rfl
    rw [List.length_nil, loopF, bitsBackL4]
    by_cases h : pre.length < g.length
    · have h2 : ¬ ((pre.length : Int) < 50) := by omega
      simp [h, h2, longs, awake2_eq, hf]
    · simp [h, longs, awake2_eq, hf]
  | x :: m, pre, k, hl => by
    obtain ⟨h1, h2, h3⟩ := at_getN (d := (0 : Int)) hl
    have hx : x ∈ g := List.mem_of_mem_take (i := 50) (by rw [hl]; simp)
    have hm : i32s m := fun y hy => hu y (List.mem_of_mem_take (i := 50) (by rw [hl]; simp [hy]))
    obtain ⟨u0, u1⟩ := hu x hx
    have hl' : g.take 50 = (pre ++ [x]) ++ m := by rw [hl]; simp
    have hw : IntKind.i64.wrap ((pre.length : Int) + 1) = (((pre ++ [x]).length : Nat) : Int) := by rw [w64 (by omega) (by omega)]; simp
    have ih := back_glong g hu m (pre ++ [x]) k hl'
    rw [List.length_cons, ← Nat.add_assoc, loopF, bitsBackL4]
    have hs : longs (x :: m) = enc (zg x) ++ longs m := by simp [longs]
    simp only [Int.toNat_natCast, h3, hw, decide_eq_true (show (pre.length : Int) < (g.length : Int) by omega), decide_eq_true (show (pre.length : Int) < 50 by omega), decide_eq_true (show (0 : Int) ≤ (pre.length : Int) by omega), Bool.and_self, cond_true]
    rw [hs, glong_enc u0 u1 (longs_bytes hm)]
    simp only [Option.bind_some, bne_self_eq_false, cond_false]
    exact ih

theorem encs_length : ∀ l : List Int, (encs l).length ≤ 11 * l.length
  | [] => by simp [encs]
  | x :: l => by
    have := enc_length x.toNat
    have ih := encs_length l
    have hs : encs (x :: l) = enc x.toNat ++ encs l := by simp [encs]
    rw [hs, List.length_append, List.length_cons]; omega

theorem bitsBack_law (l g : List Int) (hl : u32s l) (hg : i32s g) : ∃ k, bitsBackN k l g = some (true, ()) := by
  refine ⟨(g.take 50).length + (l.take 50).length + 1, ?_⟩
  have p1 := back_put l hl (l.take 50) [] [] (g.take 50).length rfl (by simp)
  have el := encs_length (l.take 50)
  have l50 : (l.take 50).length ≤ 50 := by simp; omega
  have p2 := back_long g hg (g.take 50) [] (encs (l.take 50)) (l.take 50).length rfl (by simp; omega)
  have hg50 : i32s (g.take 50) := fun y hy => hg y (List.mem_of_mem_take hy)
  have p3 := back_get l hl (longs (g.take 50)) (longs_bytes hg50) (l.take 50) [] (g.take 50).length rfl
  have p4 := back_glong g hg (g.take 50) [] (l.take 50).length rfl
  rw [Nat.add_comm (l.take 50).length] at p2 p4
  unfold bitsBackN
  have q1 : loopF (bitsBackL1 l) ((g.take 50).length + (l.take 50).length + 1) (([] : List Int), ((0 : Int), ())) = some (.inl (encs (l.take 50), ())) := p1
  rw [q1]
  simp only [Option.bind_some]
  have q2 : loopF (bitsBackL2 g) ((g.take 50).length + (l.take 50).length + 1) (encs (l.take 50), ((0 : Int), ())) = some (.inl (encs (l.take 50) ++ longs (g.take 50), ())) := p2
  rw [q2]
  simp only [Option.bind_some]
  have q3 : loopF (bitsBackL3 l) ((g.take 50).length + (l.take 50).length + 1) ((0 : Int), newN (encs (l.take 50) ++ longs (g.take 50)), ()) = some (.inl ((longs (g.take 50), false, ()), ())) := p3
  rw [q3]
  exact p4

end Go.Pli
