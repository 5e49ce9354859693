/- CodecPalettes: the walk. -/
import Derived.Test.YtpakcmcoafbgkaaDd
namespace Go.Proofs.Ytpakcmcoafbgkaa.Cx
open Go.RowKit
theorem palTo_prefix (cs : List Int) : ∀ (d k : Nat), k + d = 17 → ∃ r, palTo cs 17 = palTo cs k ++ r
  | 0, k, h => ⟨[], by obtain rfl : k = 17 := by omega
                       simp⟩
  | d + 1, k, h => by
    obtain ⟨r, hr⟩ := palTo_prefix cs d (k + 1) (by omega)
    rw [palTo_succ cs k] at hr
    split at hr
    · exact ⟨(k : Int) :: r, by rw [hr]; simp⟩
    · exact ⟨r, hr⟩
/-- Head and palette of what is encoded. -/
structure Head (cs x : List Int) (f : Int) : Prop where
  form : ∃ body, x = f :: ((palK cs).length : Int) :: (palK cs ++ body)
theorem enc_head (cs : List Int) : Head cs (enc cs) 1 ∨ Head cs (enc cs) 2 := by
  unfold enc
  split
  · exact .inl ⟨_, rfl⟩
  · exact .inr ⟨_, rfl⟩
theorem Head.at0 {cs x : List Int} {f : Int} (h : Head cs x f) : x.getD 0 0 = f := by obtain ⟨_, rfl⟩ := h.form; rfl
theorem Head.at1 {cs x : List Int} {f : Int} (h : Head cs x f) : x.getD 1 0 = ((palK cs).length : Int) := by obtain ⟨_, rfl⟩ := h.form; rfl
theorem Head.len {cs x : List Int} {f : Int} (h : Head cs x f) : 2 + (palK cs).length ≤ x.length := by obtain ⟨_, rfl⟩ := h.form; simp only [List.length_cons, List.length_append]; omega
theorem Head.atk {cs x : List Int} {f : Int} (h : Head cs x f) (k : Nat) (hk : k < 17) (hc : 0 < cs.count (k : Int)) : 2 + (palTo cs k).length < x.length ∧ x.getD (2 + (palTo cs k).length) 0 = (k : Int) := by
  obtain ⟨body, rfl⟩ := h.form
  obtain ⟨r, hr⟩ := palTo_prefix cs (16 - k) (k + 1) (by omega)
  rw [palTo_succ cs k, if_pos hc] at hr
  have hp : palK cs = palTo cs k ++ ((k : Int) :: r) := by rw [show palK cs = palTo cs 17 from rfl, hr]; simp
  have hl : (palK cs).length = (palTo cs k).length + (r.length + 1) := by rw [hp, List.length_append]; rfl
  refine ⟨by simp only [List.length_cons, List.length_append]; omega, ?_⟩
  rw [show 2 + (palTo cs k).length = (palTo cs k).length + 1 + 1 by omega, List.getD_cons_succ, List.getD_cons_succ, hp, List.append_assoc]
  rw [List.getD_eq_getElem?_getD, List.getElem?_append_right (Nat.le_refl _), Nat.sub_self]
  rfl
set_option maxHeartbeats 3200000 in
theorem palettes_any (A : Option Addr) (n c : Nat) (vs : Value) (ss : List Int) (w : World) (h : RP w A n c) (hs : RI .i64 w vs ss) (hi : I64 ss) : Calls Try.prog 7 #[.slice A n c, vs] w (isTrue w) := by
  obtain ⟨As, ns, cs, rfl⟩ : ∃ A n c, vs = .slice A n c := by
    obtain ⟨A, c, e, _⟩ := hs
    exact ⟨A, _, c, e⟩
  have hsl := hs.len
  have H := Lib.hid h
  have HS := Lib.hid hs
  have HI := Lib.hid hi
  have hc1 := h.le
  have hc2 := h.cap
  have hc3 := hs.lc
  have HL := Lib.hid hsl
  clear h hs hi hsl
  go_enter Try.func7, Try.ntmps7
  go_wp2_with fail
  refine (awake_any w).mono ?_
  rintro e w1 ⟨rfl, hb1⟩
  have HB1 := Lib.hid hb1
  clear hb1
  by_cases h1 : 1000 < n
  · go_wp2_with fail
    go_ret
    exact ⟨rfl, HB1.out⟩
  · by_cases h2 : 10000 < ns
    · go_wp2_with fail
      go_ret
      exact ⟨rfl, HB1.out⟩
    · go_wp2_with fail
      refine (cells_any A n c _ ss w1 (H.out.below HB1.out) (HS.out.below HB1.out) (by rw [HL.out]; omega) HI.out).mono ?_
      rintro e w2 ⟨g, hg, rfl, hR, hb2⟩
      obtain ⟨xs, hk, hl, hO⟩ := hR.ex
      obtain ⟨N, hN⟩ : ∃ N : Nat, 32768 = N := ⟨_, rfl⟩
      rw [hN] at hO hl ⊢
      have hNi : Hid ((N : Int) = 32768) := by show _ = _; omega
      have hxl : Hid ((xs.length : Int) = 32768) := by show _ = _; omega
      clear hN hl hR
      have HK := Lib.hid hk
      have HO := Lib.hid hO
      have HB2 : Hid (Below w.heap.size w w2) := HB1.out.trans (hb2.mono HB1.out.size)
      have hs2 : w.heap.size ≤ w2.heap.size := HB2.out.size
      clear hk hO hb2
      go_wp2_with fail
      refine (made_any _ xs w2 HO.out.RI HK.out hxl.out).mono ?_
      rintro e w3 ⟨gm, rfl, hC, hgm, hb3⟩
      have HC := Lib.hid hC
      have HB3 : Hid (Below w.heap.size w w3) := HB2.out.trans (hb3.mono hs2)
      have hs3 : w.heap.size ≤ w3.heap.size := HB3.out.size
      clear hC hb3 HO
      go_wp2_with fail
      refine (encode_any gm xs w3 HC.out HK.out).mono ?_
      rintro e w4 ⟨vx, rfl, hOx, hb4⟩
      have HB4 : Hid (Below w.heap.size w w4) := HB3.out.trans (hb4.mono hs3)
      have hs4 : w.heap.size ≤ w4.heap.size := HB4.out.size
      have HC4 : Hid (Chk w4 gm xs) := HC.out.below hb4
      have HOX := Lib.hid hOx
      clear hb4 hOx HC
      go_wp2_with fail
      refine (counts_any gm xs w4 HC4.out HK.out).mono ?_
      rintro e w5 ⟨vc, rfl, hOc, hb5⟩
      have HB5 : Hid (Below w.heap.size w w5) := HB4.out.trans (hb5.mono hs4)
      have HOX5 : Hid (Own .u8 5 w5 w3.heap.size vx (enc xs)) := HOX.out.below hb5
      obtain ⟨gc, cc, curc, rfl, -⟩ := hOc.form (by rw [cnt_len]; omega)
      rw [cnt_len] at hOc ⊢
      have HRC := Lib.hid hOc.RI
      clear hOc hb5 HC4 HOX HB4
      rcases enc_head xs with hh | hh <;> (
        have HH := Lib.hid hh
        clear hh
        generalize enc xs = x at *
        have hl2 := HH.out.len
        have hpp := palK_le xs
        obtain ⟨gx, cx, curx, rfl, hgx, -, hcx1, hcx2, -⟩ := HOX5.out.form (by omega)
        obtain ⟨ad, ea, hx0⟩ := HOX5.out.RI.at_ 0 (by omega)
        cases ea
        obtain ⟨_, ea, hx1⟩ := HOX5.out.RI.at_ 1 (by omega)
        cases ea
        rw [adp, Nat.zero_add, HH.out.at0] at hx0
        rw [adp, Nat.zero_add, HH.out.at1] at hx1
        obtain ⟨nx, hnx⟩ : ∃ nx, nx = x.length := ⟨_, rfl⟩
        rw [← hnx] at hl2 hcx1 HOX5 ⊢
        have HNX := Lib.hid hnx
        clear hnx
        go_wp2_with fail
        go_loop [9, 10] (fun a i => ∃ k : Nat, k ≤ 17 ∧ a = .int .i64 ((2 + (palTo xs k).length : Nat) : Int) ∧ i = .int .i64 k) (fun _ i => 17 - (intOf i).toNat)
        case atStart => exact ⟨0, by omega, rfl, rfl⟩
        case round =>
          obtain ⟨k, hk, rfl, rfl⟩ := hrel
          have hpl := palTo_len xs k
          by_cases hk1 : k < 17
          · obtain ⟨ad, ea, hcc⟩ := HRC.out.at_ k hk1
            cases ea
            rw [adp, Nat.zero_add, cnt_get _ _ hk1] at hcc
            by_cases hct : 0 < xs.count (k : Int)
            · obtain ⟨hlt, hat⟩ := HH.out.atk k hk1 hct
              have hps : Hid ((palTo xs (k + 1)).length = (palTo xs k).length + 1) := by show _ = _; rw [palTo_succ, if_pos hct, List.length_append]; rfl
              rw [← HNX.out] at hlt
              obtain ⟨_, ea, hxa⟩ := HOX5.out.RI.at_ (2 + (palTo xs k).length) hlt
              cases ea
              rw [adp, Nat.zero_add, hat] at hxa
              have hc0 : (((xs.count (k : Int) : Nat) : Int) == 0) = false := beq_eq_false_iff_ne.2 (by omega)
              generalize ((xs.count (k : Int) : Nat) : Int) = q at *
              generalize (palTo xs k).length = p at *
              go_wp2_with fail
              go_round
              case measure => simp [intOf]; omega
              case rel => exact ⟨k + 1, by omega, by rw [hps.out]; go_num, by go_num⟩
            · have hps : Hid ((palTo xs (k + 1)).length = (palTo xs k).length) := by show _ = _; rw [palTo_succ, if_neg hct]
              obtain hc0 : xs.count (k : Int) = 0 := by omega
              rw [hc0] at hcc
              clear hc0 hct
              generalize (palTo xs k).length = p at *
              go_wp2_with fail
              go_round
              case measure => simp [intOf]; omega
              case rel => exact ⟨k + 1, by omega, by rw [hps.out], by go_num⟩
          · obtain rfl : k = 17 := by omega
            rw [show palTo xs 17 = palK xs from rfl]
            generalize (palK xs).length = p at *
            have hpe : ((p : Int) == 2 + (p : Int) - 2) = true := beq_iff_eq.2 (by omega)
            go_wp2_with fail
            go_ret
            exact ⟨rfl, HB5.out⟩)
end Go.Proofs.Ytpakcmcoafbgkaa.Cx
