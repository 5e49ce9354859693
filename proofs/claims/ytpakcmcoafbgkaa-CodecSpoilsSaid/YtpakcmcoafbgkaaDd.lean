/- CodecBack: the walk. -/
import Derived.Test.YtpakcmcoafbgkaaDc

namespace Go.Proofs.Ytpakcmcoafbgkaa.Cx
open Go.RowKit
def I64 (ss : List Int) : Prop := ∀ j, j < ss.length → -9223372036854775808 ≤ ss.getD j 0 ∧ ss.getD j 0 ≤ 9223372036854775807
theorem kinds_bytes {cs : List Int} (h : Kinds cs) : Bytes cs := fun x hx => by have := h x hx; omega
theorem putN_bytes (n : Nat) (h : n < 2097152) : Bytes (putN n) := by
  intro x hx
  by_cases h1 : n < 128
  · rw [putN_lt h1] at hx; simp at hx; omega
  · rw [putN_ge h1] at hx
    by_cases h2 : n / 128 < 128
    · rw [putN_lt h2] at hx; simp at hx; omega
    · rw [putN_ge h2, putN_lt (by omega)] at hx; simp at hx; omega
theorem runsE_bytes : ∀ (f : Nat) (ps : List Int), ps.length < 2097152 → Bytes ps → Bytes (runsE f ps)
  | 0, _, _, _ => fun x hx => by cases hx
  | _ + 1, [], _, _ => fun x hx => by cases hx
  | f + 1, p :: ps, hl, hp => by
    intro x hx
    have he : runsE (f + 1) (p :: ps) = putN (runLen (p :: ps)) ++ [p] ++ runsE f ((p :: ps).drop (runLen (p :: ps))) := rfl
    rw [he] at hx
    rcases List.mem_append.1 hx with hx | hx
    · rcases List.mem_append.1 hx with hx | hx
      · exact putN_bytes _ (by have := runLen_le p ps; omega) x hx
      · rw [List.mem_singleton] at hx; subst hx; exact hp _ (by simp)
    · exact runsE_bytes f _ (by rw [List.length_drop]; omega) (hp.drop _) x hx
theorem bitsE_bytes (w : Nat) (hw : w = 1 ∨ w = 2 ∨ w = 4 ∨ w = 8) : ∀ (f : Nat) (ps : List Int), (∀ p ∈ ps, 0 ≤ p ∧ p < 2 ^ w) → Bytes (bitsE w f ps)
  | 0, _, _ => fun x hx => by cases hx
  | _ + 1, [], _ => fun x hx => by cases hx
  | f + 1, p :: ps, hp => by
    intro x hx
    have he : bitsE w (f + 1) (p :: ps) = packB w ((p :: ps).take (8 / w)) :: bitsE w f ((p :: ps).drop (8 / w)) := rfl
    rw [he] at hx
    rcases List.mem_cons.1 hx with rfl | hx
    · obtain ⟨h0, h1⟩ := packB_range w ((p :: ps).take (8 / w)) (fun q hq => hp q (List.mem_of_mem_take hq))
      refine ⟨h0, Int.lt_of_lt_of_le h1 ?_⟩
      have hl : ((p :: ps).take (8 / w)).length ≤ 8 / w := by rw [List.length_take]; exact Nat.min_le_left _ _
      have h2 : w * ((p :: ps).take (8 / w)).length ≤ 8 := by
        rcases hw with rfl | rfl | rfl | rfl <;> omega
      have h3 := Nat.pow_le_pow_right (n := 2) (by decide) h2
      have e1 : (2 : Int) ^ (w * ((p :: ps).take (8 / w)).length) = ((2 ^ (w * ((p :: ps).take (8 / w)).length) : Nat) : Int) := by rw [Int.natCast_pow]; rfl
      rw [e1]
      have h4 : 2 ^ (w * ((p :: ps).take (8 / w)).length) ≤ 256 := h3
      omega
    · exact bitsE_bytes w hw f _ (fun q hq => hp q (List.mem_of_mem_drop hq)) x hx
theorem enc_bytes {cs : List Int} (hk : Kinds cs) (hl : (cs.length : Int) = 32768) : Bytes (enc cs) := by
  have hpl := palK_le cs
  have hpb : Bytes (palK cs) := fun x hx => by have := palTo_lt cs 17 x hx; omega
  have hlt := places_lt (fun x hx => hk x hx)
  have hsb : Bytes (places cs) := fun p hp => by have := hlt p hp; omega
  have hw := width_fits2 (palK cs).length hpl
  unfold enc
  split
  · intro x hx
    unfold encR at hx
    rcases List.mem_cons.1 hx with rfl | hx
    · omega
    · rcases List.mem_cons.1 hx with rfl | hx
      · omega
      · rcases List.mem_append.1 hx with hx | hx
        · exact hpb x hx
        · exact runsE_bytes _ _ (by rw [places_len]; omega) hsb x hx
  · intro x hx
    unfold encB at hx
    rcases List.mem_cons.1 hx with rfl | hx
    · omega
    · rcases List.mem_cons.1 hx with rfl | hx
      · omega
      · rcases List.mem_append.1 hx with hx | hx
        · exact hpb x hx
        · exact bitsE_bytes _ (widthN_cases _) _ _ (fun p hp => ⟨(hlt p hp).1, by have := (hlt p hp).2; omega⟩) x hx
set_option maxHeartbeats 3200000 in
theorem back_any (A : Option Addr) (n c : Nat) (vs : Value) (ss : List Int) (w : World) (h : RP w A n c) (hs : RI .i64 w vs ss) (hi : I64 ss) : Calls Try.prog 4 #[.slice A n c, vs] w (isTrue w) := by
  obtain ⟨As, ns, cs, rfl⟩ : ∃ A n c, vs = .slice A n c := by
    obtain ⟨A, c, e, _⟩ := hs
    exact ⟨A, _, c, e⟩
  have hsl := hs.len
  have H := Lib.hid h
  have HS := Lib.hid hs
  have HI := Lib.hid hi
  have hc1 := h.le
  have hc2 := h.cap
  have hc3 := hs.lc
  have HL := Lib.hid hsl
  clear h hs hi hsl
  go_enter Try.func4, Try.ntmps4
  go_wp2_with fail
  refine (awake_any w).mono ?_
  rintro e w1 ⟨rfl, hb1⟩
  have HB1 := Lib.hid hb1
  clear hb1
  by_cases h1 : 1000 < n
  · go_wp2_with fail
    go_ret
    exact ⟨rfl, HB1.out⟩
  · by_cases h2 : 10000 < ns
    · go_wp2_with fail
      go_ret
      exact ⟨rfl, HB1.out⟩
    · go_wp2_with fail
      refine (cells_any A n c _ ss w1 (H.out.below HB1.out) (HS.out.below HB1.out) (by rw [HL.out]; omega) HI.out).mono ?_
      rintro e w2 ⟨g, hg, rfl, hR, hb2⟩
      obtain ⟨xs, hk, hl, hO⟩ := hR.ex
      obtain ⟨N, hN⟩ : ∃ N : Nat, 32768 = N := ⟨_, rfl⟩
      rw [hN] at hO hl ⊢
      have hNi : Hid ((N : Int) = 32768) := by show _ = _; omega
      have hxl : Hid ((xs.length : Int) = 32768) := by show _ = _; omega
      clear hN hl hR
      have HK := Lib.hid hk
      have HO := Lib.hid hO
      have HB2 : Hid (Below w.heap.size w w2) := HB1.out.trans (hb2.mono HB1.out.size)
      have hs2 : w.heap.size ≤ w2.heap.size := HB2.out.size
      clear hk hO hb2
      go_wp2_with fail
      refine (made_any _ xs w2 HO.out.RI HK.out hxl.out).mono ?_
      rintro e w3 ⟨gm, rfl, hC, hgm, hb3⟩
      have HC := Lib.hid hC
      have HB3 : Hid (Below w.heap.size w w3) := HB2.out.trans (hb3.mono hs2)
      have hs3 : w.heap.size ≤ w3.heap.size := HB3.out.size
      have HO3 : Hid (Own .u8 5 w3 w1.heap.size (.slice (some ⟨g, 0, none⟩) N N) xs) := HO.out.below hb3
      clear hC hb3 HO
      go_wp2_with fail
      refine (encode_any gm xs w3 HC.out HK.out).mono ?_
      rintro e w4 ⟨vx, rfl, hOx, hb4⟩
      have HB4 : Hid (Below w.heap.size w w4) := HB3.out.trans (hb4.mono hs3)
      have hs4 : w.heap.size ≤ w4.heap.size := HB4.out.size
      have HO4 : Hid (Own .u8 5 w4 w1.heap.size (.slice (some ⟨g, 0, none⟩) N N) xs) := HO3.out.below hb4
      have HOX := Lib.hid hOx
      clear hb4 HO3 hOx
      go_wp2_with fail
      refine (decode_any vx _ w4 HOX.out.RI (enc_bytes HK.out hxl.out) (fun g hg => (HOX.out.base g hg).2)).mono ?_
      have hde : dec (enc xs) = .ok xs := by
        have h := dec_enc HK.out hxl.out []
        rw [List.append_nil] at h; exact h
      rw [hde]
      clear hde
      rintro e w5 ⟨gd, rfl, hC5, hgd, hb5⟩
      have HC5 := Lib.hid hC5
      have HB5 : Hid (Below w.heap.size w w5) := HB4.out.trans (hb5.mono hs4)
      have hs5 : w.heap.size ≤ w5.heap.size := HB5.out.size
      have HO5 : Hid (Own .u8 5 w5 w1.heap.size (.slice (some ⟨g, 0, none⟩) N N) xs) := HO4.out.below hb5
      obtain ⟨AX, nx, cx, rfl⟩ := HOX.out.val
      have hnx : (nx : Int) ≤ 32788 := by
        have e1 := HOX.out.len
        have e2 := enc_len HK.out hxl.out
        omega
      have hcx := HOX.out.RI.lc
      have hcv := str_any w5 _ xs HO5.out.RI (kinds_bytes HK.out)
      clear hb5 HO4 HOX hC5
      go_wp2_with fail
      have hcvd : (convert 25 9 (.slice (some ⟨g, 0, none⟩) N N)).run Try.prog w5.drew = .ok (.string (strB xs)) w5.drew := str_any _ _ xs HO5.out.drew.RI (kinds_bytes HK.out)
      have hdn : decide ((nx : Int) ≤ 32788) = true := decide_eq_true hnx
      go_region_law
        ((go_simp; go_at_call 14; refine (bytes_any gd xs _ (by first | exact HC5.out | exact HC5.out.below ((Below.refl _ _).drew))).mono ?_; rintro e w6 ⟨v6, rfl, hO6, hb6⟩; have hcv6 : (convert 25 9 v6).run Try.prog w6 = .ok (.string (strB xs)) w6 := str_any w6 v6 xs hO6.RI (kinds_bytes HK.out); have hcvb : (convert 25 9 (.slice (some ⟨g, 0, none⟩) N N)).run Try.prog w6 = .ok (.string (strB xs)) w6 := str_any w6 _ xs (HO5.out.drew.below hb6).RI (kinds_bytes HK.out); have HB6 := Lib.hid hb6; clear hO6 hb6))
      all_goals
        go_wp2_with fail
        go_ret
        exact ⟨rfl, (HB5.out.drew).trans (HB6.out.mono hs5)⟩
end Go.Proofs.Ytpakcmcoafbgkaa.Cx
