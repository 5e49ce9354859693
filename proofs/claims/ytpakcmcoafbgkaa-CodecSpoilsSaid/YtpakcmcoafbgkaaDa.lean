/- What was encoded is decoded to what it was: plainly, the whole. -/
import Derived.Test.YtpakcmcoafbgkaaCz
namespace Go.Proofs.Ytpakcmcoafbgkaa.Cx
open Go.RowKit
theorem placesOf_packB (w : Nat) : ∀ (l : List Int), (∀ p ∈ l, 0 ≤ p ∧ p < 2 ^ w) → placesOf w l.length (packB w l) = l
  | [], _ => rfl
  | p :: l, h => by
    obtain ⟨p0, p1⟩ := h p (by simp)
    have hp : (0 : Int) < 2 ^ w := Int.pow_pos (by decide)
    have e1 : (p + 2 ^ w * packB w l) % 2 ^ w = p := by rw [Int.add_mul_emod_self_left, Int.emod_eq_of_lt p0 p1]
    have e2 : (p + 2 ^ w * packB w l) / 2 ^ w = packB w l := by rw [Int.add_mul_ediv_left _ _ (Int.ne_of_gt hp), Int.ediv_eq_zero_of_lt p0 p1, Int.zero_add]
    show ((p + 2 ^ w * packB w l) % 2 ^ w) :: placesOf w l.length ((p + 2 ^ w * packB w l) / 2 ^ w) = p :: l
    rw [e1, e2, placesOf_packB w l (fun q hq => h q (by simp [hq]))]
theorem bitsE_flat (w k : Nat) (hk : 0 < k) (hw : k = 8 / w) : ∀ (t g : Nat) (ps : List Int), ps.length = t * k → ps.length ≤ g → (∀ p ∈ ps, 0 ≤ p ∧ p < 2 ^ w) → (bitsE w g ps).flatMap (placesOf w k) = ps ∧ (bitsE w g ps).length = t
  | 0, g, ps, hl, _, _ => by
    have : ps = [] := List.eq_nil_of_length_eq_zero (by omega)
    subst this
    cases g <;> simp [bitsE]
  | t + 1, g, [], hl, _, _ => by
    rw [Nat.succ_mul] at hl; simp at hl; omega
  | t + 1, 0, p :: ps, _, hg, _ => by simp at hg
  | t + 1, g + 1, p :: ps, hl, hg, hp => by
    rw [Nat.succ_mul] at hl
    have hlt : ((p :: ps).take k).length = k := by rw [List.length_take]; omega
    have hld : ((p :: ps).drop k).length = t * k := by rw [List.length_drop]; omega
    obtain ⟨h1, h2⟩ := bitsE_flat w k hk hw t g ((p :: ps).drop k) hld (by rw [hld]; omega) (fun q hq => hp q (List.mem_of_mem_drop hq))
    have e : bitsE w (g + 1) (p :: ps) = packB w ((p :: ps).take k) :: bitsE w g ((p :: ps).drop k) := by rw [hw]; rfl
    have hpk := placesOf_packB w ((p :: ps).take k) (fun q hq => hp q (List.mem_of_mem_take hq))
    rw [hlt] at hpk
    rw [e, List.flatMap_cons, hpk, h1, List.take_append_drop, List.length_cons, h2]
    exact ⟨rfl, rfl⟩
theorem putP_ok (pal : List Int) : ∀ (ps out : List Int), (∀ p ∈ ps, p < (pal.length : Int)) → putP pal ps out = .ok (out ++ ps.map fun p => pal.getD p.toNat 0)
  | [], out, _ => by simp [putP]
  | p :: ps, out, h => by
    rw [putP, if_pos (h p (by simp)), putP_ok pal ps _ (fun q hq => h q (by simp [hq]))]
    simp
/-- Cells of the laws: their palette and places. -/
theorem places_len (cs : List Int) : (places cs).length = cs.length := by simp [places]
theorem places_lt {cs : List Int} (hk : ∀ x ∈ cs, 0 ≤ x ∧ x ≤ 16) : ∀ p ∈ places cs, 0 ≤ p ∧ p < (palK cs).length := by
  intro p hp
  obtain ⟨x, hx, rfl⟩ := List.mem_map.1 hp
  obtain ⟨h0, h1, _⟩ := plc_of_mem (palTo_rising cs 17) (palK_mem hk hx)
  exact ⟨h0, h1⟩
theorem places_back {cs : List Int} (hk : ∀ x ∈ cs, 0 ≤ x ∧ x ≤ 16) : ((places cs).map fun p => (palK cs).getD p.toNat 0) = cs := by
  unfold places
  rw [List.map_map]
  conv => rhs; rw [← List.map_id cs]
  refine List.map_congr_left fun x hx => ?_
  exact (plc_of_mem (palTo_rising cs 17) (palK_mem hk hx)).2.2
theorem palK_ok (cs : List Int) : PalOk (palK cs) := fun i hi => by
  refine ⟨by have := palTo_lt cs 17 _ (getD_mem (l := palTo cs 17) hi); show (palTo cs 17).getD i 0 ≤ 16; omega, ?_⟩
  by_cases h0 : i = 0
  · exact .inl h0
  · exact .inr (palTo_rising cs 17 (i - 1) i (by omega) hi)
theorem palK_le (cs : List Int) : (palK cs).length ≤ 17 := palTo_len cs 17
theorem palK_pos {cs : List Int} (hk : ∀ x ∈ cs, 0 ≤ x ∧ x ≤ 16) (h0 : 0 < cs.length) : 1 ≤ (palK cs).length := by
  have := List.length_pos_of_mem (palK_mem hk (getD_mem h0))
  omega
/-- Head and palette are read back. -/
theorem dec_head (f : Int) (hf : f = 1 ∨ f = 2) (pal r : List Int) (hp : PalOk pal) (h0 : 1 ≤ pal.length) (h1 : pal.length ≤ 17) : dec (f :: (pal.length : Int) :: (pal ++ r)) = formD f r pal := by
  unfold dec
  rw [if_neg (by simp)]
  have e0 : (f :: (pal.length : Int) :: (pal ++ r)).getD 0 0 = f := rfl
  have e1 : (f :: (pal.length : Int) :: (pal ++ r)).getD 1 0 = (pal.length : Int) := rfl
  have e2 : (f :: (pal.length : Int) :: (pal ++ r)).drop 2 = pal ++ r := rfl
  have e3 : (f :: (pal.length : Int) :: (pal ++ r)).drop (2 + pal.length) = r := by rw [← List.drop_drop, e2, List.drop_left]
  rw [e0, e1, e2, if_pos ⟨hf, by omega, by omega⟩, Int.toNat_natCast, e3, List.take_left, if_neg (by simp only [List.length_cons, List.length_append]; omega), if_pos hp]
theorem dec_encR {cs : List Int} (hk : ∀ x ∈ cs, 0 ≤ x ∧ x ≤ 16) (hl : (cs.length : Int) = 32768) (t : List Int) : dec (encR cs ++ t) = if t.length = 0 then .ok cs else .error 2 := by
  have e : encR cs ++ t = 1 :: ((palK cs).length : Int) :: (palK cs ++ (runsE cs.length (places cs) ++ t)) := by simp [encR]
  rw [e, dec_head 1 (.inl rfl) _ _ (palK_ok cs) (palK_pos hk (by omega)) (palK_le cs)]
  unfold formD
  rw [if_pos rfl, runsD_runsE (palK cs) t cs.length 32768 cs.length (places cs) [] (by rw [places_len]; exact Nat.le_refl _) (by rw [places_len]; omega) (by rw [places_len]; exact Nat.le_refl _) (by rw [places_len]; simpa using hl) (places_lt hk)]
  simp only [List.nil_append, places_back hk]
theorem width_fits2 (n : Nat) (hn : n ≤ 17) : (n : Int) ≤ 2 ^ widthN n ∧ 0 < 8 / widthN n ∧ 32768 = 4096 * widthN n * (8 / widthN n) ∧ 4096 * widthN n ≤ 32768 := by
  unfold widthN
  split
  · exact ⟨by show (n : Int) ≤ 2; omega, by decide, rfl, by omega⟩
  · split
    · exact ⟨by show (n : Int) ≤ 4; omega, by decide, rfl, by omega⟩
    · split
      · exact ⟨by show (n : Int) ≤ 16; omega, by decide, rfl, by omega⟩
      · exact ⟨by show (n : Int) ≤ 256; omega, by decide, rfl, by omega⟩
theorem bits_cs {cs : List Int} (hk : ∀ x ∈ cs, 0 ≤ x ∧ x ≤ 16) (hl : (cs.length : Int) = 32768) :
    (bitsE (widthN (palK cs).length) cs.length (places cs)).flatMap (placesOf (widthN (palK cs).length) (8 / widthN (palK cs).length)) = places cs ∧ (bitsE (widthN (palK cs).length) cs.length (places cs)).length = 4096 * widthN (palK cs).length := by
  obtain ⟨h1, h2, h3, _⟩ := width_fits2 (palK cs).length (palK_le cs)
  refine bitsE_flat _ _ h2 rfl _ _ _ (by rw [places_len, ← h3]; omega) (by rw [places_len]; exact Nat.le_refl _) (fun p hp => ?_)
  have := places_lt hk p hp
  exact ⟨this.1, by omega⟩
theorem dec_encB {cs : List Int} (hk : ∀ x ∈ cs, 0 ≤ x ∧ x ≤ 16) (hl : (cs.length : Int) = 32768) (t : List Int) : dec (encB cs ++ t) = if t.length = 0 then .ok cs else .error 2 := by
  have e : encB cs ++ t = 2 :: ((palK cs).length : Int) :: (palK cs ++ (bitsE (widthN (palK cs).length) cs.length (places cs) ++ t)) := by simp [encB]
  rw [e, dec_head 2 (.inr rfl) _ _ (palK_ok cs) (palK_pos hk (by omega)) (palK_le cs)]
  obtain ⟨h1, h2⟩ := bits_cs hk hl
  unfold formD
  rw [if_neg (by decide), if_neg (by rw [List.length_append, h2]; omega)]
  have e3 : (bitsE (widthN (palK cs).length) cs.length (places cs) ++ t).take (4096 * widthN (palK cs).length) = bitsE (widthN (palK cs).length) cs.length (places cs) := by rw [← h2, List.take_left]
  rw [e3]
  unfold bitsD
  rw [h1, putP_ok _ _ _ (fun p hp => (places_lt hk p hp).2), List.nil_append, places_back hk, List.length_append, h2]
  by_cases ht : t.length = 0
  · rw [if_pos ht]; simp [ht]
  · rw [if_neg ht]; simp only []; rw [if_neg (by omega)]
theorem dec_enc {cs : List Int} (hk : ∀ x ∈ cs, 0 ≤ x ∧ x ≤ 16) (hl : (cs.length : Int) = 32768) (t : List Int) : dec (enc cs ++ t) = if t.length = 0 then .ok cs else .error 2 := by
  unfold enc
  split
  · exact dec_encR hk hl t
  · exact dec_encB hk hl t
theorem enc_len {cs : List Int} (hk : ∀ x ∈ cs, 0 ≤ x ∧ x ≤ 16) (hl : (cs.length : Int) = 32768) : ((enc cs).length : Int) ≤ 32787 := by
  have hB : (encB cs).length = 2 + (palK cs).length + 4096 * widthN (palK cs).length := by
    unfold encB; rw [List.length_cons, List.length_cons, List.length_append, (bits_cs hk hl).2]; omega
  have := palK_le cs
  have := (width_fits2 (palK cs).length (palK_le cs)).2.2.2
  unfold enc
  split <;> omega
end Go.Proofs.Ytpakcmcoafbgkaa.Cx
