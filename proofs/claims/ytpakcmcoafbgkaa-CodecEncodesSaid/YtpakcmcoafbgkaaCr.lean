/- What cells are encoded to, plainly. -/
import Derived.Test.YtpakcmcoafbgkaaCq
namespace Go.Proofs.Ytpakcmcoafbgkaa.Cx
open Go.RowKit
/-- How many cells each kind has. -/
def cnt (cs : List Int) : List Int := (List.range 17).map fun k : Nat => ((cs.count (k : Int) : Nat) : Int)
theorem cnt_len (cs : List Int) : (cnt cs).length = 17 := by simp [cnt]
theorem cnt_get (cs : List Int) (k : Nat) (hk : k < 17) : (cnt cs).getD k 0 = ((cs.count (k : Int) : Nat) : Int) := by
  simp [cnt, List.getD_eq_getElem?_getD, hk]
theorem cnt_nil : cnt [] = List.replicate 17 0 := rfl
theorem cnt_snoc (cs : List Int) (x : Int) (h0 : 0 ≤ x) (h1 : x ≤ 16) : cnt (cs ++ [x]) = (cnt cs).set x.toNat ((cnt cs).getD x.toNat 0 + 1) := by
  rw [cnt_get cs _ (by omega)]
  apply List.ext_getElem
  · simp [cnt]
  · intro i hi _
    have hi' : i < 17 := by simpa [cnt] using hi
    rw [List.getElem_set]
    simp only [cnt, List.getElem_map, List.getElem_range, List.count_append, List.count_singleton]
    by_cases hx : x.toNat = i
    · rw [if_pos hx]
      have e : x = (i : Int) := by omega
      subst e
      simp
    · rw [if_neg hx]
      have e : (x == (i : Int)) = false := beq_eq_false_iff_ne.2 (by omega)
      simp [e]
theorem cnt_bound (cs : List Int) (k : Nat) : (cnt cs).getD k 0 ≤ cs.length ∧ 0 ≤ (cnt cs).getD k 0 := by
  by_cases hk : k < 17
  · rw [cnt_get cs k hk]
    have := List.count_le_length (a := (k : Int)) (l := cs)
    omega
  · rw [List.getD_eq_getElem?_getD, List.getElem?_eq_none (by rw [cnt_len]; omega)]
    simp
/-- The kinds below n that cells have, rising. -/
def palTo (cs : List Int) (n : Nat) : List Int := ((List.range n).filter fun k : Nat => decide (0 < cs.count (k : Int))).map fun k : Nat => (k : Int)
def palK (cs : List Int) : List Int := palTo cs 17
theorem palTo_succ (cs : List Int) (n : Nat) : palTo cs (n + 1) = if 0 < cs.count (n : Int) then palTo cs n ++ [(n : Int)] else palTo cs n := by
  unfold palTo
  rw [List.range_succ, List.filter_append, List.map_append]
  by_cases h : 0 < cs.count (n : Int)
  · rw [if_pos h, List.filter_cons_of_pos (by exact decide_eq_true h)]; rfl
  · rw [if_neg h, List.filter_cons_of_neg (by rw [decide_eq_true_eq]; exact h)]; simp
theorem palTo_len (cs : List Int) : ∀ n, (palTo cs n).length ≤ n
  | 0 => by simp [palTo]
  | n + 1 => by
    rw [palTo_succ]; split
    · rw [List.length_append]; have := palTo_len cs n; simp; omega
    · have := palTo_len cs n; omega
theorem palTo_lt (cs : List Int) : ∀ n, ∀ x ∈ palTo cs n, 0 ≤ x ∧ x < n
  | 0, x, hx => by simp [palTo] at hx
  | n + 1, x, hx => by
    rw [palTo_succ] at hx
    split at hx
    · rcases List.mem_append.1 hx with hx | hx
      · have := palTo_lt cs n x hx; omega
      · rw [List.mem_singleton] at hx; omega
    · have := palTo_lt cs n x hx; omega
theorem palTo_mem (cs : List Int) : ∀ (n k : Nat), k < n → 0 < cs.count (k : Int) → (k : Int) ∈ palTo cs n
  | 0, k, h, _ => by omega
  | n + 1, k, h, hc => by
    rw [palTo_succ]
    by_cases hk : k = n
    · subst hk; rw [if_pos hc]; simp
    · have := palTo_mem cs n k (by omega) hc
      split
      · exact List.mem_append_left _ this
      · exact this
/-- Strictly rising. -/
def Rising (l : List Int) : Prop := ∀ i j, i < j → j < l.length → l.getD i 0 < l.getD j 0
theorem getD_append_left' (l m : List Int) (i : Nat) (h : i < l.length) : (l ++ m).getD i 0 = l.getD i 0 := by
  rw [List.getD_eq_getElem?_getD, List.getElem?_append_left h, ← List.getD_eq_getElem?_getD]
theorem getD_append_last (l : List Int) (x : Int) : (l ++ [x]).getD l.length 0 = x := by
  rw [List.getD_eq_getElem?_getD, List.getElem?_append_right (Nat.le_refl _)]; simp
theorem getD_mem {l : List Int} {i : Nat} (h : i < l.length) : l.getD i 0 ∈ l := by
  rw [List.getD_eq_getElem?_getD, List.getElem?_eq_getElem h]; exact List.getElem_mem _
theorem palTo_rising (cs : List Int) : ∀ n, Rising (palTo cs n)
  | 0 => fun i j _ hj => by simp [palTo] at hj
  | n + 1 => by
    intro i j hij hj
    rw [palTo_succ] at hj ⊢
    split
    · rename_i hc
      rw [if_pos hc, List.length_append, List.length_singleton] at hj
      rw [getD_append_left' _ _ i (by omega)]
      by_cases hjl : j < (palTo cs n).length
      · rw [getD_append_left' _ _ j hjl]; exact palTo_rising cs n i j hij hjl
      · obtain rfl : j = (palTo cs n).length := by omega
        rw [getD_append_last]
        exact (palTo_lt cs n _ (getD_mem hij)).2
    · rename_i hc
      rw [if_neg hc] at hj
      exact palTo_rising cs n i j hij hj
/-- i is the place of x in l. -/
def IsPlace (l : List Int) (x : Int) (i : Int) : Prop := 0 ≤ i ∧ i < l.length ∧ l.getD i.toNat 0 = x
theorem IsPlace.unique {l : List Int} (hl : Rising l) {x i j : Int} (hi : IsPlace l x i) (hj : IsPlace l x j) : i = j := by
  obtain ⟨i0, i1, i2⟩ := hi
  obtain ⟨j0, j1, j2⟩ := hj
  rcases Int.lt_trichotomy i j with h | h | h
  · have := hl i.toNat j.toNat (by omega) (by omega); omega
  · exact h
  · have := hl j.toNat i.toNat (by omega) (by omega); omega
theorem IsPlace.inj {l : List Int} {x y i : Int} (hi : IsPlace l x i) (hj : IsPlace l y i) : x = y := hi.2.2.symm.trans hj.2.2
theorem IsPlace.append {l : List Int} {x i : Int} (h : IsPlace l x i) (m : List Int) : IsPlace (l ++ m) x i :=
  ⟨h.1, by rw [List.length_append]; have := h.2.1; omega, by rw [getD_append_left' _ _ _ (by have := h.2.1; have := h.1; omega)]; exact h.2.2⟩
theorem IsPlace.last (l : List Int) (x : Int) : IsPlace (l ++ [x]) x l.length := ⟨by omega, by rw [List.length_append, List.length_singleton]; omega, by rw [Int.toNat_natCast, getD_append_last]⟩
open Classical in
/-- The place of x in l. -/
noncomputable def plc (l : List Int) (x : Int) : Int := if h : ∃ i, IsPlace l x i then Classical.choose h else 0
theorem plc_eq {l : List Int} (hl : Rising l) {x i : Int} (h : IsPlace l x i) : plc l x = i := by
  have he : ∃ i, IsPlace l x i := ⟨i, h⟩
  unfold plc; rw [dif_pos he]
  exact IsPlace.unique hl (Classical.choose_spec he) h
theorem plc_of_mem {l : List Int} (hl : Rising l) {x : Int} (h : x ∈ l) : IsPlace l x (plc l x) := by
  obtain ⟨i, hi, rfl⟩ := List.mem_iff_getElem.1 h
  have : IsPlace l l[i] i := ⟨by omega, by omega, by rw [Int.toNat_natCast, List.getD_eq_getElem?_getD, List.getElem?_eq_getElem hi]; rfl⟩
  rw [plc_eq hl this]; exact this
theorem palK_mem {cs : List Int} (hk : ∀ x ∈ cs, 0 ≤ x ∧ x ≤ 16) {x : Int} (hx : x ∈ cs) : x ∈ palK cs := by
  obtain ⟨h0, h1⟩ := hk x hx
  obtain ⟨k, rfl⟩ := Int.eq_ofNat_of_zero_le h0
  exact palTo_mem cs 17 k (by omega) (List.count_pos_iff.2 hx)

/-! Runs. -/
def runLen : List Int → Nat
  | [] => 1
  | x :: xs => (xs.takeWhile fun y => y == x).length + 1
theorem runLen_le (x : Int) (xs : List Int) : runLen (x :: xs) ≤ (x :: xs).length := by
  have := (List.takeWhile_sublist (fun y => y == x) (l := xs)).length_le
  show (xs.takeWhile fun y => y == x).length + 1 ≤ xs.length + 1
  omega
theorem runLen_pos (l : List Int) : 1 ≤ runLen l := by cases l <;> simp [runLen]
def putN (n : Nat) : List Int := if n < 128 then [(n : Int)] else ((n % 128 + 128 : Nat) : Int) :: putN (n / 128)
theorem putN_lt {n : Nat} (h : n < 128) : putN n = [(n : Int)] := by rw [putN, if_pos h]
theorem putN_ge {n : Nat} (h : ¬ n < 128) : putN n = ((n % 128 + 128 : Nat) : Int) :: putN (n / 128) := by rw [putN, if_neg h]
def runsE : Nat → List Int → List Int
  | 0, _ => []
  | _ + 1, [] => []
  | f + 1, x :: xs => putN (runLen (x :: xs)) ++ [x] ++ runsE f ((x :: xs).drop (runLen (x :: xs)))
/-! Bits. -/
def packB (w : Nat) : List Int → Int
  | [] => 0
  | p :: ps => p + 2 ^ w * packB w ps
def bitsE (w : Nat) : Nat → List Int → List Int
  | 0, _ => []
  | _ + 1, [] => []
  | f + 1, p :: ps => packB w ((p :: ps).take (8 / w)) :: bitsE w f ((p :: ps).drop (8 / w))
/-- What cells are encoded to. -/
noncomputable def places (cs : List Int) : List Int := cs.map (plc (palK cs))
noncomputable def encR (cs : List Int) : List Int := 1 :: ((palK cs).length : Int) :: (palK cs ++ runsE cs.length (places cs))
noncomputable def encB (cs : List Int) : List Int := 2 :: ((palK cs).length : Int) :: (palK cs ++ bitsE (widthN (palK cs).length) cs.length (places cs))
noncomputable def enc (cs : List Int) : List Int := if (encR cs).length ≤ (encB cs).length then encR cs else encB cs
end Go.Proofs.Ytpakcmcoafbgkaa.Cx
