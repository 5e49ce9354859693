/- The reader reads form 2: just what 'bitsD' tells. -/
import Derived.Test.YtpakcmcoafbgkaaCd
namespace Go.Proofs.Ytpakcmcoafbgkaa.Cx
open Go.RowKit
def bitsR (wd : Nat) (b pal : List Int) : Except Int (List Int × List Int) :=
  if b.length < 4096 * wd then .error 3
  else match bitsD wd (b.take (4096 * wd)) pal [] with
    | .error c => .error c
    | .ok out => .ok (b.drop (4096 * wd), out)

theorem and_w (wd : Nat) (hw : wd = 1 ∨ wd = 2 ∨ wd = 4 ∨ wd = 8) (x : Int) (h0 : 0 ≤ x) (h1 : x < 256) : bits .and .u8 x ((2 ^ wd - 1) % 256) = x % 2 ^ wd := by
  rcases hw with rfl | rfl | rfl | rfl
  · exact bits_mask .u8 8 (by decide) wraps_u8 1 (by decide) x h0 h1
  · exact bits_mask .u8 8 (by decide) wraps_u8 2 (by decide) x h0 h1
  · exact bits_mask .u8 8 (by decide) wraps_u8 4 (by decide) x h0 h1
  · exact bits_mask .u8 8 (by decide) wraps_u8 8 (by decide) x h0 h1
theorem mod_w (wd : Nat) (hw : wd = 1 ∨ wd = 2 ∨ wd = 4 ∨ wd = 8) (x : Int) (h0 : 0 ≤ x) (h1 : x < 256) : 0 ≤ x % 2 ^ wd ∧ x % 2 ^ wd < 256 ∧ 0 ≤ x / 2 ^ wd ∧ x / 2 ^ wd < 256 := by
  rcases hw with rfl | rfl | rfl | rfl <;> omega
set_option maxHeartbeats 1600000 in
set_option maxRecDepth 100000 in
theorem bits_any {w : World} {B br : Nat} {vb vp vo : Value} {b pal : List Int} (h : RS w B br vb vp vo b pal []) (hb : Bytes b) (wd : Nat) (hw : wd = 1 ∨ wd = 2 ∨ wd = 4 ∨ wd = 8) :
    Calls Try.prog 41 #[.pointer (some ⟨br,0,none⟩), .int .i64 wd] w (Reads (bitsR wd b pal) w B br vp pal) := by
  have H := Lib.hid h; clear h
  generalize hr : bitsR wd b pal = r
  have HR := Lib.hid hr; clear hr
  have w1 : 1 ≤ wd := by omega
  have w8 : wd ≤ 8 := by omega
  have HW := Lib.hid hw; clear hw
  by_cases hlen : (b.length : Int) < 4096 * wd
  · have hE : Hid (r = .error 3) := by rw [← HR.out]; unfold bitsR; rw [if_pos (by omega)]; exact rfl
    go_enter Try.func41, Try.ntmps41
    go_wp2_with fail
    refine (rtake_no H.out _ (by omega) (by omega)).mono ?_
    rintro e w1 ⟨rfl, rfl⟩
    exact ⟨rfl, Reads.error hE.out (Below.refl _ _)⟩
  · go_enter Try.func41, Try.ntmps41
    go_wp2_with fail
    refine (rtake_ok H.out _ (by omega) (by omega)).mono ?_
    rintro e w1 ⟨A1, c1, vb1, rfl, hT, hL, hS, hb1⟩
    obtain ⟨N, hN⟩ : ∃ N : Nat, N = 4096 * wd := ⟨_, rfl⟩
    have hN1 : (32768 * (wd : Int) / 8).toNat = N := by omega
    rw [hN1] at hT hS hL ⊢
    have hNb : (N : Int) ≤ b.length := by omega
    have HN := Lib.hid hN
    clear hN1
    obtain ⟨q, hq⟩ : ∃ q : Nat, q = 8 / wd := ⟨_, rfl⟩
    have hq1 : ((8 : Int) / (wd : Int)) = (q : Int) := by
      rw [hq]
      rcases HW.out with rfl | rfl | rfl | rfl <;> rfl
    have HQ1 := Lib.hid hq1
    have hqw : q * N = 32768 := by
      rw [hN, hq]
      rcases HW.out with rfl | rfl | rfl | rfl <;> rfl
    have HQW := Lib.hid hqw
    have hNs : (N : Int) ≤ 32768 := by omega
    have hqs : (q : Int) ≤ 8 := by
      have := Nat.div_le_self 8 wd
      omega
    have HQ := Lib.hid hq
    clear hN hq hq1 hqw
    generalize hT' : b.take N = T at *
    have hTl : T.length = N := by rw [← hT', List.length_take]; omega
    have HTl := Lib.hid hTl
    have HTB : Hid (Bytes T) := by rw [← hT']; exact hb.take _
    have HR' : Hid (bitsD wd T pal [] = (match bitsD wd T pal [] with | .error c => .error c | .ok out => .ok out)) := by
      cases bitsD wd T pal [] <;> exact rfl
    have HE1 : ∀ c, bitsD wd T pal [] = .error c → r = .error c := by
      intro c hc
      rw [← HR.out]; unfold bitsR; rw [if_neg (by have := HN.out; omega), ← HN.out, hT', hc]
    have HE2 : ∀ o, bitsD wd T pal [] = .ok o → r = .ok (b.drop N, o) := by
      intro c hc
      rw [← HR.out]; unfold bitsR; rw [if_neg (by have := HN.out; omega), ← HN.out, hT', hc]
    have HF1 := Lib.hid HE1
    have HF2 := Lib.hid HE2
    clear HE1 HE2 HR' HR hTl
    clear hT'
    generalize hR0 : bitsD wd T pal [] = R0 at *
    have HR0 : Hid (R0 = putP pal (T.flatMap (placesOf wd q)) []) := by rw [← hR0, HQ.out]; exact rfl
    clear hR0 H
    generalize b.drop N = rest at *
    go_wp2_with fail
    go_loopw [12] (fun i wr => ∃ (k : Nat) (vo' : Value) (out' : List Int), (k : Int) ≤ N ∧ i = .int .i64 k ∧ Hid (RS wr B br vb1 vp vo' rest pal out') ∧ Hid (RI .u8 wr (.slice A1 N c1) T) ∧
        Hid (R0 = putP pal ((T.drop k).flatMap (placesOf wd q)) out') ∧ Hid (out'.length = k * q) ∧ Below B w wr) (fun i _ => N - (intOf i).toNat)
    case atStart => exact ⟨0, vo, [], by omega, rfl, hS, hT, HR0, by simp [Hid], hb1⟩
    case round =>
      obtain ⟨k, vo', out', hk, rfl, hS', hT', hP, hO, hbel⟩ := hrel
      by_cases hkn : (k : Int) < N
      · obtain ⟨ad, ea, hx⟩ := hT'.out.at_ k (by omega)
        cases ea
        obtain ⟨v0, v1⟩ := HTB.out.at_ k
        have hP2 : Hid (R0 = putP pal (placesOf wd (q - 0) (T.getD k 0) ++ (T.drop (k + 1)).flatMap (placesOf wd q)) out') := by
          have hkT : k < T.length := by have := HTl.out; omega
          rw [hP.out, List.drop_eq_getElem_cons hkT, List.flatMap_cons, List.getD_eq_getElem?_getD, List.getElem?_eq_getElem hkT]; exact rfl
        have hbd : Hid (k * q + q ≤ 32768) := by
          have h1 : (k + 1) * q ≤ N * q := Nat.mul_le_mul_right _ (by omega)
          rw [Nat.succ_mul, Nat.mul_comm N q, HQW.out] at h1
          exact h1
        generalize T.getD k 0 = v at *
        clear hP
        go_wp2_with fail
        rw [HQ1.out]
        obtain ⟨wo, rfl⟩ : ∃ wo : World, wo = wr := ⟨_, rfl⟩
        go_loopw [5, 18] (fun vs i wr => ∃ (j : Nat) (x : Int) (vo'' : Value) (out'' : List Int), (j : Int) ≤ q ∧ i = .int .i64 j ∧ vs = .int .u8 x ∧ 0 ≤ x ∧ x < 256 ∧ Hid (RS wr B br vb1 vp vo'' rest pal out'') ∧ Hid (RI .u8 wr (.slice (some ad) N c1) T) ∧
            Hid (R0 = putP pal (placesOf wd (q - j) x ++ (T.drop (k + 1)).flatMap (placesOf wd q)) out'') ∧ Hid (out''.length = k * q + j) ∧ Below B w wr) (fun _ i _ => q - (intOf i).toNat)
        case atStart => exact ⟨0, v, vo', out', by omega, rfl, rfl, v0, v1, hS', hT', hP2, hO, hbel⟩
        case round =>
          obtain ⟨j, x, vo'', out'', hj, rfl, rfl, x0, x1, hS2, hT2, hP3, hO2, hbel2⟩ := hrel
          clear hP2 hx
          by_cases hjq : (j : Int) < q
          · have hA := and_w wd HW.out x x0 x1
            obtain ⟨m0, m1, d0, d1⟩ := mod_w wd HW.out x x0 x1
            have HA := Lib.hid hA
            clear hA
            have hpl : Hid (placesOf wd (q - j) x = x % 2 ^ wd :: placesOf wd (q - (j + 1)) (x / 2 ^ wd)) := by
              rw [show q - j = (q - (j + 1)) + 1 by omega]; exact rfl
            rw [hpl.out, List.cons_append] at hP3
            clear hpl
            go_wp2_with fail
            rw [HA.out]
            have HX := Lib.hid (rfl : x / 2 ^ wd = x / 2 ^ wd)
            by_cases hp : x % 2 ^ wd < pal.length
            · refine (rputs_ok hS2.out _ 1 m0 m1 hp (by omega) (by have := hO2.out; have := hbd.out; omega)).mono ?_
              rintro e w3 ⟨rfl, ⟨vo3, hS3⟩, hb3⟩
              go_wp2_with fail
              go_roundw
              case measure => simp [intOf]; omega
              case rel =>
                refine ⟨j + 1, x / 2 ^ wd, vo3, _, by omega, by go_num, ?_, d0, d1, hS3, ?_, ?_, ?_, hbel2.trans hb3⟩
                · rfl
                · exact hT2.out.low hL.out hb3
                · unfold putP at hP3
                  rw [if_pos hp] at hP3
                  exact hP3
                · simp only [List.length_append, List.length_replicate]
                  have := hO2.out
                  show _ = _
                  rw [this]; rfl
            · have hE : Hid (r = .error 4) := HF1.out _ (by
                unfold putP at hP3
                rw [if_neg hp] at hP3
                exact hP3.out)
              refine (rputs_no hS2.out _ 1 m0 m1 (by omega)).mono ?_
              rintro e w3 ⟨rfl, rfl⟩
              exact ⟨rfl, Reads.error hE.out hbel2⟩
          · go_wp2_with fail
            go_roundw
            case measure => simp [intOf]; omega
            case rel =>
              have e : j = q := by omega
              refine ⟨k + 1, vo'', out'', by omega, by go_num, hS2, hT2, ?_, ?_, hbel2⟩
              · rw [hP3.out, e, Nat.sub_self]; exact rfl
              · rw [hO2.out, e, Nat.succ_mul]; exact rfl
      · have hkN : k = N := by omega
        have hE : Hid (r = .ok (rest, out')) := HF2.out _ (by rw [hP.out, hkN, List.drop_eq_nil_of_le (by have := HTl.out; omega)]; rfl)
        go_wp2_with fail
        go_end0
        exact Reads.ok hE.out hS'.out hbel
end Go.Proofs.Ytpakcmcoafbgkaa.Cx
