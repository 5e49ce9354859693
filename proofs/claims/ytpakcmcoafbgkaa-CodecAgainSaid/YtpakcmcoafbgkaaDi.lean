/- CodecAgain: the walk. -/
import Derived.Test.YtpakcmcoafbgkaaDh
namespace Go.Proofs.Ytpakcmcoafbgkaa.Cx
open Go.RowKit
set_option maxHeartbeats 3200000 in
theorem again_any (vh : Value) (hs : List Int) (many tail : Int) (w : World) (h : RI .u8 w vh hs) (hb : Bytes hs) (hm : -9223372036854775808 ≤ many ∧ many ≤ 9223372036854775807) (ht : 0 ≤ tail ∧ tail ≤ 255) :
    Calls Try.prog 8 #[vh, .int .i64 many, .int .u8 tail] w (isTrue w) := by
  obtain ⟨A, n, c, rfl⟩ : ∃ A n c, vh = .slice A n c := by
    obtain ⟨A, c, e, _⟩ := h
    exact ⟨A, _, c, e⟩
  have HL := Lib.hid h.len
  have hlc := h.lc
  have H := Lib.hid h
  have HB := Lib.hid hb
  clear h hb
  go_enter Try.func8, Try.ntmps8
  go_wp2_with fail
  refine (awake_any w).mono ?_
  rintro e w1 ⟨rfl, hb1⟩
  have HB1 := Lib.hid hb1
  have hs1 := hb1.size
  clear hb1
  by_cases h1 : many < 0
  · go_wp2_with fail
    go_ret
    exact ⟨rfl, HB1.out⟩
  by_cases h2 : 40000 < many
  · go_wp2_with fail
    go_ret
    exact ⟨rfl, HB1.out⟩
  by_cases h3 : 40000 < n
  · go_wp2_with fail
    go_ret
    exact ⟨rfl, HB1.out⟩
  obtain ⟨m, rfl⟩ := Int.eq_ofNat_of_zero_le (show 0 ≤ many by omega)
  have hn : (n : Int) ≤ 40000 := by omega
  have hm2 : (m : Int) ≤ 40000 := by omega
  have HR1 : Hid (RI .u8 w1 (.slice A n c) hs) := H.out.below HB1.out
  clear h1 h2 h3
  go_wp2_with (at_builtin; refine appR (w0 := w1) w1.heap.size rfl (.const (.slice none 0 0)) (.tmp 27) 25 5 .u8 1 rfl Try.underlying25 info5 (by omega) (.slice none 0 0) [] hs _ rfl rfl (Own.nil _ _ _ _) HR1.out (Below.refl _ _) (Nat.le_refl _) (by have := HL.out; simp; omega) ?_; intro v2 w2 h2 hb2 hg2 ha2; have H2 := Lib.hid h2; have HB2 := Lib.hid hb2; clear h2 hb2 hg2 ha2)
  go_loopw [8, 9] (fun b i wr => ∃ (k : Nat) (xs : List Int), k ≤ m ∧ i = .int .i64 k ∧ Hid (Own .u8 5 wr w1.heap.size b xs) ∧ Hid (Bytes xs) ∧ Hid (xs.length = n + k) ∧ Hid (Below w1.heap.size w1 wr)) (fun _ i _ => m - (intOf i).toNat)
  case atStart => exact ⟨0, [] ++ hs, by omega, rfl, H2, HB, by have := HL.out; show _ = _; simp; omega, HB2⟩
  case round =>
    obtain ⟨k, xs, hk, rfl, hO, hby, hln, hB⟩ := hrel
    have hws := hB.out.size
    by_cases hkm : k < m
    · go_wp2_with (at_builtin; refine appR (w0 := w1) w1.heap.size rfl (.tmp 34) (.tmp 36) 25 5 .u8 1 rfl Try.underlying25 info5 (by omega) u8 xs [tail] (.slice (some ⟨wr.heap.size, 0, none⟩) 1 1) rfl rfl (hO.out.alloc _) (RI.box .u8 5 wr [tail] (by simp) (0, 0)) (hB.out.alloc hws _) (by simp; omega) (by have := hln.out; simp; omega) ?_; intro v3 w3 h3 hb3 hg3 ha3; have H3 := Lib.hid h3; have HB3 := Lib.hid hb3; clear h3 hb3 hg3 ha3)
      exact ⟨⟨k + 1, xs ++ [tail], by omega, by go_num, H3, fun x hx => by
        rcases List.mem_append.1 hx with hx | hx
        · exact hby.out x hx
        · rw [List.mem_singleton] at hx; subst hx; omega, by have := hln.out; show _ = _; simp; omega, HB3⟩, by simp [intOf]; omega⟩
    · obtain ⟨wo, rfl⟩ : ∃ wo, wo = wr := ⟨_, rfl⟩
      have HBo : Hid (Below w.heap.size w wo) := HB1.out.trans (hB.out.mono hs1)
      have hso := HBo.out.size
      go_wp2_with fail
      refine (decode_any u8 xs wo hO.out.RI hby.out (fun g hg => (hO.out.base g hg).2)).mono ?_
      rcases hd : dec xs with e0 | out
      · rintro e w4 ⟨rfl, hb4⟩
        have HB4 : Hid (Below w.heap.size w w4) := HBo.out.trans (hb4.mono hso)
        clear hb4 hd
        go_wp2_with fail
        all_goals
          go_ret
          exact ⟨rfl, HB4.out⟩
      · rintro e w4 ⟨gd, rfl, hC, hgd, hb4⟩
        have HB4 : Hid (Below w.heap.size w w4) := HBo.out.trans (hb4.mono hso)
        have hs4 := HB4.out.size
        have HC := Lib.hid hC
        have HK : Hid (Kinds out) := (dec_ok hby.out hd).2
        have hol : Hid ((out.length : Int) = 32768) := by have := (dec_ok hby.out hd).1; show _ = _; omega
        clear hb4 hd hC
        go_wp2_with fail
        refine (encode_any gd out w4 HC.out HK.out).mono ?_
        rintro e w5 ⟨v5, rfl, hO5, hb5⟩
        have HB5 : Hid (Below w.heap.size w w5) := HB4.out.trans (hb5.mono hs4)
        have hs5 := HB5.out.size
        have HC5 : Hid (Chk w5 gd out) := HC.out.below hb5
        have HO5 := Lib.hid hO5
        clear hb5 hO5 HC
        go_wp2_with fail
        refine (decode_any v5 _ w5 HO5.out.RI (enc_bytes HK.out hol.out) (fun g hg => (HO5.out.base g hg).2)).mono ?_
        have hde : dec (enc out) = .ok out := by
          have h := dec_enc HK.out hol.out []
          rw [List.append_nil] at h; exact h
        rw [hde]
        clear hde
        rintro e w6 ⟨ge, rfl, hC6, hge, hb6⟩
        have HB6 : Hid (Below w.heap.size w w6) := HB5.out.trans (hb6.mono hs5)
        have hs6 := HB6.out.size
        have HCd : Hid (Chk w6 gd out) := HC5.out.below hb6
        have HCe := Lib.hid hC6
        clear hb6 hC6 HC5
        go_wp2_with fail
        refine (diff_same gd ge out w6 HCd.out HCe.out HK.out).mono ?_
        rintro e w7 ⟨rfl, hb7⟩
        have HB7 : Hid (Below w.heap.size w w7) := HB6.out.trans (hb7.mono hs6)
        clear hb7
        go_wp2_with fail
        go_ret
        exact ⟨rfl, HB7.out⟩
end Go.Proofs.Ytpakcmcoafbgkaa.Cx
