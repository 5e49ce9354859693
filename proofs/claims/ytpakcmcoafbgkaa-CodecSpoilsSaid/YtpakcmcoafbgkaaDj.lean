/- The reference's Encode: just what 'enc' tells. -/
import Derived.Test.YtpakcmcoafbgkaaDd
namespace Go.Proofs.Ytpakcmcoafbgkaa.Cx
open Go.RowKit
theorem places_get (cs : List Int) (i : Nat) (hi : i < cs.length) : (places cs).getD i 0 = plc (palK cs) (cs.getD i 0) := by
  unfold places
  rw [List.getD_eq_getElem?_getD, List.getD_eq_getElem?_getD, List.getElem?_map, List.getElem?_eq_getElem hi]; rfl
theorem places_inj {cs : List Int} (hk : Kinds cs) {i j : Nat} (hi : i < cs.length) (hj : j < cs.length) (h : (places cs).getD i 0 = (places cs).getD j 0) : cs.getD i 0 = cs.getD j 0 := by
  rw [places_get cs i hi, places_get cs j hj] at h
  have h1 := plc_of_mem (palTo_rising cs 17) (palK_mem (fun x hx => hk x hx) (getD_mem hi))
  have h2 := plc_of_mem (palTo_rising cs 17) (palK_mem (fun x hx => hk x hx) (getD_mem hj))
  have h3 : plc (palTo cs 17) (cs.getD i 0) = plc (palTo cs 17) (cs.getD j 0) := h
  rw [h3] at h1
  exact IsPlace.inj h1 h2
theorem getD_drop' (l : List Int) (k j : Nat) : (l.drop k).getD j 0 = l.getD (k + j) 0 := by
  rw [List.getD_eq_getElem?_getD, List.getElem?_drop, ← List.getD_eq_getElem?_getD]
/-- The run of places from k on, told by the cells. -/
theorem run_of_cells {cs : List Int} (hk : Kinds cs) (k j : Nat) (h1 : 1 ≤ j) (hj : k + j ≤ cs.length) (he : ∀ t, t < j → cs.getD (k + t) 0 = cs.getD k 0) (hs : k + j = cs.length ∨ cs.getD (k + j) 0 ≠ cs.getD k 0) :
    runLen ((places cs).drop k) = j := by
  refine runLen_eq _ j h1 (by rw [List.length_drop, places_len]; omega) (fun t ht => ?_) ?_
  · rw [getD_drop', getD_drop', places_get _ _ (by omega), places_get _ _ (by omega), he t ht, Nat.add_zero]
  · rw [List.length_drop, places_len, getD_drop', getD_drop', Nat.add_zero]
    by_cases hkj : k + j = cs.length
    · exact .inl (by omega)
    · refine .inr fun h => ?_
      rcases hs with hs | hs
      · exact hkj hs
      · exact hs (places_inj hk (by omega) (by omega) h)
/-- One run more is put. -/
theorem runsE_step (f : Nat) (ps : List Int) (k r : Nat) (hk : k < ps.length) (hf : ps.length - k ≤ f) (hr : runLen (ps.drop k) = r) : runsE f (ps.drop k) = putN r ++ [ps.getD k 0] ++ runsE (f - 1) (ps.drop (k + r)) := by
  obtain ⟨f, rfl⟩ : ∃ f', f = f' + 1 := ⟨f - 1, by omega⟩
  rw [← List.drop_drop]
  have hd : ps.drop k = ps.getD k 0 :: ps.drop (k + 1) := by
    rw [List.drop_eq_getElem_cons hk, List.getD_eq_getElem?_getD, List.getElem?_eq_getElem hk]; rfl
  generalize ps.getD k 0 = x at *
  rw [hd] at hr ⊢
  rw [← hr]; rfl
theorem grown_box {k : IntKind} {W w4 : World} {u : Value} {xs : List Int} {b n c : Nat} (h : RI k W u xs) (hu : ∀ g, u.ownBlock = some g → g < b) (hg : W.grownBy w4 (Value.slice (some ⟨b, 0, none⟩) n c).ownBlock) : RI k w4 u xs :=
  h.grown hg fun g hg e => by
    have e2 : b = g := by simpa [Value.ownBlock] using e
    have := hu g hg
    omega
theorem pack_step (wd G q j : Nat) (ps : List Int) (hj : j < G) (hq : q + G ≤ ps.length) : packB wd (((ps.drop q).take G).drop j) = ps.getD (q + j) 0 + 2 ^ wd * packB wd (((ps.drop q).take G).drop (j + 1)) := by
  have hl : ((ps.drop q).take G).length = G := by rw [List.length_take, List.length_drop]; omega
  have hjl : j < ((ps.drop q).take G).length := by omega
  rw [List.drop_eq_getElem_cons hjl]
  have e : ((ps.drop q).take G)[j] = ps.getD (q + j) 0 := by
    rw [List.getElem_take, List.getElem_drop, List.getD_eq_getElem?_getD, List.getElem?_eq_getElem (by omega)]; rfl
  rw [e]; rfl
theorem pack_small (wd G q j : Nat) (ps : List Int) (hj : j + 1 ≤ G) (hG : wd * G ≤ 8) (hp : ∀ p ∈ ps, 0 ≤ p ∧ p < 2 ^ wd) (hq : q + G ≤ ps.length) :
    0 ≤ packB wd (((ps.drop q).take G).drop (j + 1)) ∧ packB wd (((ps.drop q).take G).drop (j + 1)) * 2 ^ wd + 2 ^ wd ≤ 256 := by
  obtain ⟨h0, h1⟩ := packB_range wd (((ps.drop q).take G).drop (j + 1)) (fun p h => hp p (List.mem_of_mem_drop (List.mem_of_mem_take (List.mem_of_mem_drop h))))
  have hl : (((ps.drop q).take G).drop (j + 1)).length = G - (j + 1) := by rw [List.length_drop, List.length_take, List.length_drop]; omega
  rw [hl] at h1
  have hpw : (0 : Int) < 2 ^ wd := Int.pow_pos (by decide)
  refine ⟨h0, ?_⟩
  have h2 : (packB wd (((ps.drop q).take G).drop (j + 1)) + 1) * 2 ^ wd ≤ 2 ^ (wd * (G - (j + 1))) * 2 ^ wd := Int.mul_le_mul_of_nonneg_right (by omega) (Int.le_of_lt hpw)
  rw [← Int.pow_add, Int.add_mul, Int.one_mul] at h2
  have h3 : wd * (G - (j + 1)) + wd ≤ 8 := by
    have e : wd * (G - (j + 1)) + wd = wd * (G - (j + 1) + 1) := by rw [Nat.mul_succ]
    rw [e]
    exact Nat.le_trans (Nat.mul_le_mul_left _ (by omega)) hG
  have h4 : (2 : Int) ^ (wd * (G - (j + 1)) + wd) ≤ 2 ^ 8 := by
    have : (2 : Nat) ^ (wd * (G - (j + 1)) + wd) ≤ 2 ^ 8 := Nat.pow_le_pow_right (by decide) h3
    exact_mod_cast this
  have h5 : (2 : Int) ^ 8 = 256 := rfl
  omega
theorem or64 (wd : Nat) (a p : Int) (h0 : 0 ≤ a) (h1 : a * 2 ^ wd + 2 ^ wd ≤ 256) (p0 : 0 ≤ p) (p1 : p < 2 ^ wd) : bits .or .i64 (a * 2 ^ wd) p = p + 2 ^ wd * a := by
  have hpw : (0 : Int) < 2 ^ wd := Int.pow_pos (by decide)
  have a0 : 0 ≤ a * 2 ^ wd := Int.mul_nonneg h0 (Int.le_of_lt hpw)
  have e8 : (2 : Int) ^ 8 = 256 := rfl
  rw [bits_join .i64 8 (by decide) (fun n h0 h1 => by rw [IntKind.wrap_i64]; omega) wd _ _ a0 (Int.mul_emod_left _ _) (by omega) p0 p1 (by omega), Int.mul_comm, Int.add_comm]
theorem bitsE_group (wd G q f : Nat) (ps : List Int) (hG : 8 / wd = G) (h1 : 1 ≤ G) (hq : q + G ≤ ps.length) (hf : ps.length - q ≤ f) : bitsE wd f (ps.drop q) = [packB wd ((ps.drop q).take G)] ++ bitsE wd (f - 1) (ps.drop (q + G)) := by
  obtain ⟨f, rfl⟩ : ∃ f', f = f' + 1 := ⟨f - 1, by omega⟩
  have hd : ps.drop q = ps.getD q 0 :: ps.drop (q + 1) := by
    rw [List.drop_eq_getElem_cons (show q < ps.length by omega), List.getD_eq_getElem?_getD, List.getElem?_eq_getElem (show q < ps.length by omega)]; rfl
  rw [← List.drop_drop]
  generalize ps.drop q = l at *
  rw [hd, ← hG]; rfl
end Go.Proofs.Ytpakcmcoafbgkaa.Cx
