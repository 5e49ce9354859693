/- CodecEncodes: the walk. -/
import Derived.Test.YtpakcmcoafbgkaaDk
namespace Go.Proofs.Ytpakcmcoafbgkaa.Cx
open Go.RowKit
set_option maxHeartbeats 6400000 in
set_option maxRecDepth 100000 in
theorem encodes_any (A : Option Addr) (n c : Nat) (vs : Value) (ss : List Int) (w : World) (h : RP w A n c) (hs : RI .i64 w vs ss) (hi : I64 ss) : Calls Try.prog 3 #[.slice A n c, vs] w (isTrue w) := by
  obtain ⟨As, ns, cs, rfl⟩ : ∃ A n c, vs = .slice A n c := by
    obtain ⟨A, c, e, _⟩ := hs
    exact ⟨A, _, c, e⟩
  have hsl := hs.len
  have H := Lib.hid h
  have HS := Lib.hid hs
  have HI := Lib.hid hi
  have hc1 := h.le
  have hc2 := h.cap
  have hc3 := hs.lc
  have HL := Lib.hid hsl
  clear h hs hi hsl
  go_enter Try.func3, Try.ntmps3
  go_wp2_with fail
  refine (awake_any w).mono ?_
  rintro e w1 ⟨rfl, hb1⟩
  have HB1 := Lib.hid hb1
  clear hb1
  by_cases h1 : 1000 < n
  · go_wp2_with fail
    go_ret
    exact ⟨rfl, HB1.out⟩
  · by_cases h2 : 10000 < ns
    · go_wp2_with fail
      go_ret
      exact ⟨rfl, HB1.out⟩
    · go_wp2_with fail
      refine (cells_any A n c _ ss w1 (H.out.below HB1.out) (HS.out.below HB1.out) (by rw [HL.out]; omega) HI.out).mono ?_
      rintro e w2 ⟨g, hg, rfl, hR, hb2⟩
      obtain ⟨xs, hk, hl, hO⟩ := hR.ex
      obtain ⟨N, hN⟩ : ∃ N : Nat, 32768 = N := ⟨_, rfl⟩
      rw [hN] at hO hl ⊢
      have hxl : Hid ((xs.length : Int) = 32768) := by show _ = _; omega
      clear hN hl hR
      have HK := Lib.hid hk
      have HO := Lib.hid hO
      have HB2 : Hid (Below w.heap.size w w2) := HB1.out.trans (hb2.mono HB1.out.size)
      have hs2 : w.heap.size ≤ w2.heap.size := HB2.out.size
      clear hk hO hb2
      go_wp2_with fail
      refine (made_any _ xs w2 HO.out.RI HK.out hxl.out).mono ?_
      rintro e w3 ⟨gm, rfl, hC, hgm, hb3⟩
      have HB3 : Hid (Below w.heap.size w w3.drew) := (HB2.out.trans (hb3.mono hs2)).drew
      have HC : Hid (Chk w3.drew gm xs) := hC.below ((Below.refl _ _).drew)
      have HO3 : Hid (Own .u8 5 w3.drew w1.heap.size (.slice (some ⟨g, 0, none⟩) N N) xs) := (HO.out.below hb3).drew
      clear hC hb3 HO
      go_wp2_with fail
      have hs3 : w.heap.size ≤ w3.drew.heap.size := HB3.out.size
      have HEB := Lib.hid (enc_bytes HK.out hxl.out)
      have HKB := Lib.hid (kinds_bytes HK.out)
      go_region_law
        ((go_simp; first
          | (go_at_call 12; refine (encode_any gm xs w3.drew HC.out HK.out).mono ?_; rintro e wa ⟨va, rfl, hOa, hba⟩; have hcva : (convert 25 9 va).run Try.prog wa = .ok (.string (strB (enc xs))) wa := str_any wa va _ hOa.RI HEB.out; have HOA := Lib.hid hOa; have HBA := Lib.hid hba; have HCA := Lib.hid (HC.out.below hba); have HO4 := Lib.hid (HO3.out.below hba); clear hOa hba)
          | (go_at_call 13; refine (rencode_any _ xs w3.drew HO3.out.RI HK.out hxl.out).mono ?_; rintro e wb ⟨vb, rfl, hOb, hbb⟩; have hcvb : (convert 25 9 vb).run Try.prog wb = .ok (.string (strB (enc xs))) wb := str_any wb vb _ hOb.RI HEB.out; have HOB := Lib.hid hOb; have HBA := Lib.hid hbb; have HCB := Lib.hid (HC.out.below hbb); have HO4 := Lib.hid (HO3.out.below hbb); clear hOb hbb)
          | (go_at_call 13; refine (rencode_any _ xs wa HO4.out.RI HK.out hxl.out).mono ?_; rintro e wc ⟨vb, rfl, hOb, hbc⟩; have hcvb : (convert 25 9 vb).run Try.prog wc = .ok (.string (strB (enc xs))) wc := str_any wc vb _ hOb.RI HEB.out; have hcva2 : (convert 25 9 va).run Try.prog wc = .ok (.string (strB (enc xs))) wc := str_any wc va _ (HOA.out.below hbc).RI HEB.out; have hcvt : (convert 25 9 (.slice (some ⟨g, 0, none⟩) N N)).run Try.prog wc = .ok (.string (strB xs)) wc := str_any wc _ xs (HO4.out.below hbc).RI HKB.out; have HCC := Lib.hid (HCA.out.below hbc); have HBC := Lib.hid (HBA.out.trans (hbc.mono HBA.out.size)); have HO5 := Lib.hid (HO4.out.below hbc); clear hOb hbc)
          | (go_at_call 12; refine (encode_any gm xs wb HCB.out HK.out).mono ?_; rintro e wc ⟨va, rfl, hOa, hbc⟩; have hcva : (convert 25 9 va).run Try.prog wc = .ok (.string (strB (enc xs))) wc := str_any wc va _ hOa.RI HEB.out; have hcvb2 : (convert 25 9 vb).run Try.prog wc = .ok (.string (strB (enc xs))) wc := str_any wc vb _ (HOB.out.below hbc).RI HEB.out; have hcvt : (convert 25 9 (.slice (some ⟨g, 0, none⟩) N N)).run Try.prog wc = .ok (.string (strB xs)) wc := str_any wc _ xs (HO4.out.below hbc).RI HKB.out; have HCC := Lib.hid (HCB.out.below hbc); have HBC := Lib.hid (HBA.out.trans (hbc.mono HBA.out.size)); have HO5 := Lib.hid (HO4.out.below hbc); clear hOa hbc)
          | (go_at_call 14; refine (bytes_any gm xs wc HCC.out).mono ?_; rintro e we ⟨v6, rfl, hO6, hb6⟩; have hcv6 : (convert 25 9 v6).run Try.prog we = .ok (.string (strB xs)) we := str_any we v6 xs hO6.RI HKB.out; have hcvbe : (convert 25 9 (.slice (some ⟨g, 0, none⟩) N N)).run Try.prog we = .ok (.string (strB xs)) we := str_any we _ xs (HO5.out.below hb6).RI HKB.out; have HBE := Lib.hid (HBC.out.trans (hb6.mono HBC.out.size)); clear hO6 hb6)))
      all_goals
        go_wp2_with fail
        go_ret
        exact ⟨rfl, HB3.out.trans (HBE.out.mono hs3)⟩
end Go.Proofs.Ytpakcmcoafbgkaa.Cx
