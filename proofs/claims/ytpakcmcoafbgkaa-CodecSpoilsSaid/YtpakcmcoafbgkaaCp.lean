/- Plain definitions: how a number is read, what bytes are decoded to, what cells are encoded to. No program and no memory in sight. -/
import Derived.Laws.BitsLemmas
import Derived.WalkKit
namespace Go.Proofs.Ytpakcmcoafbgkaa.Cx
open Go.RowKit

/-- A number in groups of seven bits: from group i on, g groups at most. -/
def getV : Nat → Nat → Int → List Int → Int × Int
  | 0, _, _, _ => (0, 0)
  | _ + 1, _, _, [] => (0, 0)
  | g + 1, i, acc, x :: xs =>
    if x < 128 then (if acc + x % 128 * 128 ^ i > 2147483647 then (0, 0) else (acc + x % 128 * 128 ^ i, (i : Int) + 1))
    else getV g (i + 1) (acc + x % 128 * 128 ^ i) xs
def getN (b : List Int) : Int × Int := getV 5 0 0 b

def Bytes (b : List Int) : Prop := ∀ x ∈ b, 0 ≤ x ∧ x < 256
theorem Bytes.at_ {b : List Int} (h : Bytes b) (i : Nat) : 0 ≤ b.getD i 0 ∧ b.getD i 0 < 256 := by
  by_cases hi : i < b.length
  · rw [List.getD_eq_getElem?_getD, List.getElem?_eq_getElem hi]; exact h _ (List.getElem_mem hi)
  · rw [List.getD_eq_getElem?_getD, List.getElem?_eq_none (by omega)]; simp
theorem Bytes.drop {b : List Int} (h : Bytes b) (i : Nat) : Bytes (b.drop i) := fun x hx => h x (List.mem_of_mem_drop hx)
theorem Bytes.take {b : List Int} (h : Bytes b) (i : Nat) : Bytes (b.take i) := fun x hx => h x (List.mem_of_mem_take hx)

theorem pow128_pos (i : Nat) : (0 : Int) < 128 ^ i := Int.pow_pos (by decide)
theorem acc_step (acc x : Int) (i : Nat) (h0 : 0 ≤ acc) (h1 : acc < 128 ^ i) (_hx : 0 ≤ x) : 0 ≤ acc + x % 128 * 128 ^ i ∧ acc + x % 128 * 128 ^ i < 128 ^ (i + 1) := by
  have hp := pow128_pos i
  have hm0 : 0 ≤ x % 128 := by omega
  have hm1 : x % 128 ≤ 127 := by omega
  have a1 : 0 ≤ x % 128 * 128 ^ i := Int.mul_nonneg hm0 (Int.le_of_lt hp)
  have a2 : x % 128 * 128 ^ i ≤ 127 * 128 ^ i := Int.mul_le_mul_of_nonneg_right hm1 (Int.le_of_lt hp)
  rw [Int.pow_succ]
  omega
/-- What is read: 0 and 0, or a number of at most 31 bits out of as many bytes as there are. -/
theorem getV_range : ∀ (g i : Nat) (acc : Int) (b : List Int), 0 ≤ acc → acc < 128 ^ i → Bytes b →
    getV g i acc b = (0, 0) ∨ (0 ≤ (getV g i acc b).1 ∧ (getV g i acc b).1 ≤ 2147483647 ∧ (i : Int) + 1 ≤ (getV g i acc b).2 ∧ (getV g i acc b).2 ≤ i + b.length ∧ (getV g i acc b).2 ≤ i + g)
  | 0, _, _, _, _, _, _ => .inl rfl
  | _ + 1, _, _, [], _, _, _ => .inl rfl
  | g + 1, i, acc, x :: xs, h0, h1, hb => by
    obtain ⟨hx0, hx1⟩ := hb x (by simp)
    obtain ⟨a0, a1⟩ := acc_step acc x i h0 h1 hx0
    unfold getV
    split
    · split
      · exact .inl rfl
      · refine .inr ⟨a0, by omega, by simp, ?_, ?_⟩ <;> simp <;> omega
    · rcases getV_range g (i + 1) _ xs a0 a1 (fun y hy => hb y (by simp [hy])) with h | ⟨c1, c2, c3, c4, c5⟩
      · exact .inl h
      · refine .inr ⟨c1, c2, by omega, ?_, by omega⟩
        rw [List.length_cons]; omega
theorem getN_range (b : List Int) (hb : Bytes b) : getN b = (0, 0) ∨ (0 ≤ (getN b).1 ∧ (getN b).1 ≤ 2147483647 ∧ 1 ≤ (getN b).2 ∧ (getN b).2 ≤ b.length ∧ (getN b).2 ≤ 5) := by
  have hr := getV_range 5 0 0 b (by omega) (by simp) hb
  change getN b = _ ∨ (0 ≤ (getN b).1 ∧ (getN b).1 ≤ _ ∧ _ ≤ (getN b).2 ∧ (getN b).2 ≤ _ ∧ (getN b).2 ≤ _) at hr
  rcases hr with h | ⟨c1, c2, c3, c4, c5⟩
  · exact .inl h
  · exact .inr ⟨c1, c2, by simpa using c3, by simpa using c4, by simpa using c5⟩

/-! Bits. -/
theorem wraps_i64 (n : Int) (h₀ : 0 ≤ n) (h₁ : n < 2 ^ 63) : IntKind.i64.wrap n = n := by rw [IntKind.wrap_i64]; omega
theorem bits_or_comm (k : IntKind) (x y : Int) : bits .or k x y = bits .or k y x := by
  unfold bits
  simp only [BitVec.or_comm]
theorem and127 (x : Int) (h0 : 0 ≤ x) (h1 : x < 256) : bits .and .u8 x 127 = x % 128 := bits_mask .u8 8 (by decide) wraps_u8 7 (by decide) x h0 h1
theorem pow128 (i : Nat) : (128 : Int) ^ i = 2 ^ (7 * i) := by rw [Int.pow_mul]; rfl
theorem get_or (acc x : Int) (i : Nat) (hi : i < 5) (h0 : 0 ≤ acc) (h1 : acc < 128 ^ i) : bits .or .i64 acc (x % 128 * 128 ^ i) = acc + x % 128 * 128 ^ i := by
  have hp := pow128_pos i
  have hm1 : x % 128 ≤ 127 := by omega
  have a1 : 0 ≤ x % 128 * 128 ^ i := Int.mul_nonneg (by omega) (Int.le_of_lt hp)
  have a2 : x % 128 * 128 ^ i ≤ 127 * 128 ^ i := Int.mul_le_mul_of_nonneg_right hm1 (Int.le_of_lt hp)
  have a3 : (128 : Int) ^ i ≤ 268435456 := by
    have : i = 0 ∨ i = 1 ∨ i = 2 ∨ i = 3 ∨ i = 4 := by omega
    rcases this with rfl | rfl | rfl | rfl | rfl <;> decide
  rw [bits_or_comm, bits_join .i64 63 (by decide) wraps_i64 (7 * i) _ _ a1 (by rw [← pow128]; simp) (by omega) h0 (by rw [← pow128]; exact h1) (by omega), Int.add_comm]
theorem get_expr (acc x : Int) (i : Nat) (hi : i < 5) (h0 : 0 ≤ acc) (h1 : acc < 128 ^ i) (hx0 : 0 ≤ x) (hx1 : x < 256) :
    bits .or .i64 acc (wrap64 (wrap64 (bits .and .u8 x 127) * 2 ^ (7 * i))) = acc + x % 128 * 128 ^ i := by
  have hp := pow128_pos i
  have hm1 : x % 128 ≤ 127 := by omega
  have a1 : 0 ≤ x % 128 * 128 ^ i := Int.mul_nonneg (by omega) (Int.le_of_lt hp)
  have a2 : x % 128 * 128 ^ i ≤ 127 * 128 ^ i := Int.mul_le_mul_of_nonneg_right hm1 (Int.le_of_lt hp)
  have a3 : (128 : Int) ^ i ≤ 268435456 := by
    have : i = 0 ∨ i = 1 ∨ i = 2 ∨ i = 3 ∨ i = 4 := by omega
    rcases this with rfl | rfl | rfl | rfl | rfl <;> decide
  have e1 : wrap64 (bits .and .u8 x 127) = x % 128 := by rw [and127 x hx0 hx1]; unfold wrap64; omega
  rw [e1, ← pow128]
  have e2 : wrap64 (x % 128 * 128 ^ i) = x % 128 * 128 ^ i := by unfold wrap64; omega
  rw [e2, get_or acc x i hi h0 h1]
theorem pow128_le (i : Nat) (hi : i < 5) : (128 : Int) ^ i ≤ 268435456 := by
  have : i = 0 ∨ i = 1 ∨ i = 2 ∨ i = 3 ∨ i = 4 := by omega
  rcases this with rfl | rfl | rfl | rfl | rfl <;> decide
theorem rget_expr (acc x : Int) (i : Nat) (hi : i < 5) (h0 : 0 ≤ acc) (h1 : acc < 128 ^ i) (_hx0 : 0 ≤ x) (_hx1 : x < 256) :
    wrap64 (acc + wrap64 (x % 128 * 128 ^ i)) = acc + x % 128 * 128 ^ i := by
  have hp := pow128_pos i
  have hm1 : x % 128 ≤ 127 := by omega
  have a1 : 0 ≤ x % 128 * 128 ^ i := Int.mul_nonneg (by omega) (Int.le_of_lt hp)
  have a2 : x % 128 * 128 ^ i ≤ 127 * 128 ^ i := Int.mul_le_mul_of_nonneg_right hm1 (Int.le_of_lt hp)
  have a3 := pow128_le i hi
  have e2 : wrap64 (x % 128 * 128 ^ i) = x % 128 * 128 ^ i := by unfold wrap64; omega
  rw [e2]
  unfold wrap64; omega
theorem rget_mul (i : Nat) (hi : i < 5) : wrap64 (128 ^ i * 128) = 128 ^ (i + 1) := by
  have a3 := pow128_le i hi
  have hp := pow128_pos i
  rw [Int.pow_succ]; unfold wrap64; omega
end Go.Proofs.Ytpakcmcoafbgkaa.Cx
