/- CodecSpoils: the walk. -/
import Derived.Test.YtpakcmcoafbgkaaDp
import Derived.Test.YtpakcmcoafbgkaaDk
import Derived.Test.YtpakcmcoafbgkaaDr
namespace Go.Proofs.Ytpakcmcoafbgkaa.Cx
open Go.RowKit
theorem enc_pos (cs : List Int) : 0 < (enc cs).length := by
  unfold enc encR encB; split <;> simp
theorem Own.take {k : IntKind} {e : TypeId} {w : World} {base g n cap : Nat} {xs : List Int} (h : Own k e w base (.slice (some ⟨g, 0, none⟩) n cap) xs) (m : Nat) (hm : m ≤ n) : Own k e w base (.slice (some ⟨g, 0, none⟩) m cap) (xs.take m) := by
  have hn : n = xs.length := h.len
  have hl : (xs.take m).length = m := by rw [List.length_take]; omega
  obtain ⟨h1, h2⟩ := h
  rcases h2 with ⟨h0, _⟩ | ⟨g', cap', cur, he, hbg, hg, hnc, hcm, hcs, htake⟩
  · cases h0
  injection he with e1 e2 e3
  injection e1 with e1
  injection e1 with e1
  subst e1; subst e3
  refine ⟨by rw [nums_length, Nat.mul_one], .inr ⟨g, cap, cur, by rw [hl], hbg, hg, by omega, hcm, hcs, ?_⟩⟩
  rw [Nat.mul_one] at htake ⊢
  have : nums k (xs.take m) = (nums k xs).take m := by simp [nums]
  rw [this, ← htake, List.take_take, hl]
  congr 1
  omega
set_option maxHeartbeats 6400000 in
set_option maxRecDepth 100000 in
theorem spoils_any (A : Option Addr) (n c : Nat) (vs : Value) (ss : List Int) (at_ x cut : Int) (w : World) (h : RP w A n c) (hs : RI .i64 w vs ss) (hi : I64 ss)
    (_ha : -9223372036854775808 ≤ at_ ∧ at_ ≤ 9223372036854775807) (hx : 0 ≤ x ∧ x ≤ 255) (hcu : -9223372036854775808 ≤ cut ∧ cut ≤ 9223372036854775807) :
    Calls Try.prog 6 #[.slice A n c, vs, .int .i64 at_, .int .u8 x, .int .i64 cut] w (isTrue w) := by
  obtain ⟨As, ns, cs, rfl⟩ : ∃ A n c, vs = .slice A n c := by
    obtain ⟨A, c, e, _⟩ := hs
    exact ⟨A, _, c, e⟩
  have hsl := hs.len
  have H := Lib.hid h
  have HS := Lib.hid hs
  have HI := Lib.hid hi
  have hc1 := h.le
  have hc2 := h.cap
  have hc3 := hs.lc
  have HL := Lib.hid hsl
  clear h hs hi hsl
  go_enter Try.func6, Try.ntmps6
  go_wp2_with fail
  refine (awake_any w).mono ?_
  rintro e w1 ⟨rfl, hb1⟩
  have HB1 := Lib.hid hb1
  clear hb1
  by_cases h1 : 1000 < n
  · go_wp2_with fail
    go_ret
    exact ⟨rfl, HB1.out⟩
  · by_cases h2 : 10000 < ns
    · go_wp2_with fail
      go_ret
      exact ⟨rfl, HB1.out⟩
    · go_wp2_with fail
      refine (cells_any A n c _ ss w1 (H.out.below HB1.out) (HS.out.below HB1.out) (by rw [HL.out]; omega) HI.out).mono ?_
      rintro e w2 ⟨g, hg, rfl, hR, hb2⟩
      obtain ⟨xs, hk, hl, hO⟩ := hR.ex
      obtain ⟨N, hN⟩ : ∃ N : Nat, 32768 = N := ⟨_, rfl⟩
      rw [hN] at hO hl ⊢
      have hxl : Hid ((xs.length : Int) = 32768) := by show _ = _; omega
      clear hN hl hR
      have HK := Lib.hid hk
      have HO := Lib.hid hO
      have HB2 : Hid (Below w.heap.size w w2) := HB1.out.trans (hb2.mono HB1.out.size)
      have hs2 : w.heap.size ≤ w2.heap.size := HB2.out.size
      clear hk hO hb2
      go_wp2_with fail
      refine (rencode_any _ xs w2 HO.out.RI HK.out hxl.out).mono ?_
      rintro e w3 ⟨v3, rfl, hO3, hb3⟩
      have HB3 : Hid (Below w.heap.size w w3) := HB2.out.trans (hb3.mono hs2)
      have hs3 : w.heap.size ≤ w3.heap.size := HB3.out.size
      have HEB : Hid (Bytes (enc xs)) := enc_bytes HK.out hxl.out
      have hel : ((enc xs).length : Int) ≤ 32788 := by have := enc_len HK.out hxl.out; omega
      have hep : 0 < (enc xs).length := enc_pos _
      obtain ⟨g3, c3, cur, rfl, hg3, -, hnc, hcc, -⟩ := hO3.form hep
      obtain ⟨n3, hn3⟩ : ∃ n3, n3 = (enc xs).length := ⟨_, rfl⟩
      rw [← hn3] at hel hep hnc hO3 ⊢
      have HN3 := Lib.hid hn3
      have HO3 : Hid (Own .u8 5 w3 w2.heap.size (.slice (some ⟨g3, 0, none⟩) n3 c3) (enc xs)) := hO3
      have hfz : w3.frozen? ⟨g3, at_.toNat, none⟩ = false := Own.frozen HO3.out _
      clear hn3 hb3 hO3
      go_upto_region 5 with fail
      go_cut [38] (fun s wx => ∃ B : Bool, s = .bool B ∧ Hid (B = true → 0 ≤ at_ ∧ at_ < n3) ∧ wx = w3)
      case first =>
        by_cases ha0 : 0 ≤ at_
        · by_cases ha1 : at_ < n3
          · go_wp2_with fail
            go_meet
            exact ⟨true, rfl, fun _ => ⟨ha0, ha1⟩, rfl⟩
          · go_wp2_with fail
            go_meet
            exact ⟨false, rfl, fun h => (by cases h), rfl⟩
        · go_wp2_with fail
          go_meet
          exact ⟨false, rfl, fun h => (by cases h), rfl⟩
      case rest =>
        obtain ⟨B, rfl, HBt, hwc⟩ := hcut
        rw [hwc]
        clear hwc
        go_upto_if 38 with fail
        go_cut [12] (fun s wx => ∃ b : List Int, s = .slice (some ⟨g3, 0, none⟩) n3 c3 ∧ Hid (Own .u8 5 wx w2.heap.size (.slice (some ⟨g3, 0, none⟩) n3 c3) b) ∧ Hid (Bytes b) ∧ Hid (Below w.heap.size w wx))
        case first =>
          cases B
          · go_wp2_with fail
            go_meet
            exact ⟨enc xs, rfl, HO3, HEB, HB3⟩
          · obtain ⟨ha0, ha1⟩ := HBt.out rfl
            have hcell := (HO3.out.RI.at_ at_.toNat (by omega))
            obtain ⟨_, ea, hcell⟩ := hcell
            cases ea
            rw [adp, Nat.zero_add] at hcell
            have hst := (HO3.out.store at_.toNat x)
            go_wp2_with fail
            have hby : Hid (Bytes ((enc xs).set at_.toNat x)) := fun y hy => by
              rcases List.mem_or_eq_of_mem_set hy with hy | rfl
              · exact HEB.out y hy
              · omega
            have hbs : Hid (Below w.heap.size w (w3.setCell ⟨g3, at_.toNat, none⟩ (.int .u8 x))) := HB3.out.setCell (by show _ ≤ g3; omega) _
            go_meet
            exact ⟨_, rfl, hst.1, hby, hbs⟩
        case rest =>
          obtain ⟨b, rfl, HO4, HY4, HB4⟩ := hcut
          obtain ⟨w4, hw4⟩ : ∃ w4, w4 = wc := ⟨_, rfl⟩
          rw [← hw4] at HO4 HB4 ⊢
          clear hw4 hfz HO3 HB3 HBt
          have HN4 := Lib.hid HO4.out.len
          go_upto_region 7 with fail
          go_cut [50] (fun s wx => ∃ B : Bool, s = .bool B ∧ Hid (B = true → 0 < cut ∧ cut < n3) ∧ wx = w4)
          case first =>
            by_cases ha0 : 0 < cut
            · by_cases ha1 : cut < n3
              · go_wp2_with fail
                go_meet
                exact ⟨true, rfl, fun _ => ⟨ha0, ha1⟩, rfl⟩
              · go_wp2_with fail
                go_meet
                exact ⟨false, rfl, fun h => (by cases h), rfl⟩
            · go_wp2_with fail
              go_meet
              exact ⟨false, rfl, fun h => (by cases h), rfl⟩
          case rest =>
            obtain ⟨B, rfl, HBt, hwc⟩ := hcut
            rw [hwc]
            clear hwc
            go_upto_if 50 with fail
            go_cut [12] (fun s wx => ∃ (n5 : Nat) (b5 : List Int), s = .slice (some ⟨g3, 0, none⟩) n5 c3 ∧ Hid (Own .u8 5 wx w2.heap.size (.slice (some ⟨g3, 0, none⟩) n5 c3) b5) ∧ Hid (Bytes b5) ∧ n5 ≤ n3 ∧ wx = w4)
            case first =>
              cases B
              · go_wp2_with fail
                go_meet
                exact ⟨n3, b, rfl, HO4, HY4, Nat.le_refl _, rfl⟩
              · obtain ⟨ha0, ha1⟩ := HBt.out rfl
                obtain ⟨k, rfl⟩ := Int.eq_ofNat_of_zero_le (show 0 ≤ cut by omega)
                have hkn : k ≤ n3 := by omega
                have hct : Hid (Own .u8 5 w4 w2.heap.size (.slice (some ⟨g3, 0, none⟩) (n3 - k) c3) (b.take (n3 - k))) := HO4.out.take _ (by omega)
                have hcy : Hid (Bytes (b.take (n3 - k))) := HY4.out.take _
                clear HBt
                go_wp2_with fail
                go_meet
                exact ⟨n3 - k, _, rfl, hct, hcy, by omega, rfl⟩
            case rest =>
              obtain ⟨n5, b5, rfl, HO5, HY5, hn5, hwc⟩ := hcut
              rw [hwc] at HO5 ⊢
              clear hwc HBt HO4 HY4 HN4
              have HN5 := Lib.hid HO5.out.len
              go_upto_region 9 with fail
              go_cut [62] (fun s wx => ∃ B : Bool, s = .bool B ∧ Hid (B = true → cut < 0 ∧ -1000 < cut) ∧ wx = w4)
              case first =>
                by_cases ha0 : cut < 0
                · by_cases ha1 : -1000 < cut
                  · go_wp2_with fail
                    go_meet
                    exact ⟨true, rfl, fun _ => ⟨ha0, ha1⟩, rfl⟩
                  · go_wp2_with fail
                    go_meet
                    exact ⟨false, rfl, fun h => (by cases h), rfl⟩
                · go_wp2_with fail
                  go_meet
                  exact ⟨false, rfl, fun h => (by cases h), rfl⟩
              case rest =>
                obtain ⟨B, rfl, HBt, hwc⟩ := hcut
                rw [hwc]
                clear hwc
                go_upto_if 62 with fail
                go_cut [12] (fun s wx => ∃ b6 : List Int, Hid (Own .u8 5 wx w2.heap.size s b6) ∧ Hid (Bytes b6) ∧ Hid (Below w.heap.size w wx))
                case first =>
                  cases B
                  · go_wp2_with fail
                    go_meet
                    exact ⟨b5, HO5, HY5, HB4⟩
                  · obtain ⟨ha0, ha1⟩ := HBt.out rfl
                    obtain ⟨k, hk⟩ : ∃ k : Nat, cut = -(k : Int) := ⟨(-cut).toNat, by omega⟩
                    subst hk
                    have hs4 : w2.heap.size ≤ w4.heap.size := by have := (HO5.out.base g3 rfl).2; omega
                    obtain ⟨v6, w6, hr6, hO6, hb6, hg6⟩ := run_append_zeros (P := Try.prog) (w0 := w4) (W := w4) w2.heap.size 25 3 25 5 .u8 .i64 .i64 1 Try.underlying25 Try.underlying3 info5 (by omega) g3 n5 c3 b5 k (by omega) HO5.out (Below.refl _ _) hs4 (by have := HN5.out; omega)
                    have HR6 := Lib.hid hr6
                    have HO6 := Lib.hid hO6
                    have HB6 : Hid (Below w.heap.size w w6) := HB4.out.trans (hb6.mono hs2)
                    have HY6 : Hid (Bytes (b5 ++ List.replicate k 0)) := fun y hy => by
                      rcases List.mem_append.1 hy with hy | hy
                      · exact HY5.out y hy
                      · obtain rfl := (List.mem_replicate.1 hy).2; omega
                    clear hr6 hO6 hb6 hg6 HBt
                    go_wp2_with (at_builtin; refine Lib.wpList_append_run _ rfl (.tmp 63) (.tmp 65) 25 3 rfl _ _ rfl rfl v6 w6 HR6.out ?_)
                    go_meet
                    exact ⟨_, HO6, HY6, HB6⟩
                case rest =>
                  obtain ⟨b6, HO6, hby, HB6⟩ := hcut
                  obtain ⟨w6, hw6⟩ : ∃ w6, w6 = wc := ⟨_, rfl⟩
                  rw [← hw6] at HO6 HB6 ⊢
                  clear hw6 HBt HO5 HY5
                  have hs6 := HB6.out.size
                  go_wp2_with fail
                  refine (decode_any u12 b6 w6 HO6.out.RI hby.out (fun g hg => (HO6.out.base g hg).2)).mono ?_
                  rcases hd : dec b6 with e0 | out
                  · have he0 : e0 ≠ 0 := dec_ne0 hd
                    have HD := Lib.hid hd
                    rintro e w7 ⟨rfl, hb7⟩
                    have HB7 : Hid (Below w.heap.size w w7) := HB6.out.trans (hb7.mono hs6)
                    have hs7 := HB7.out.size
                    have HO7 := Lib.hid (HO6.out.below hb7)
                    clear hb7 hd
                    go_wp2_with fail
                    refine (rdecode_any u12 b6 w7 HO7.out.RI hby.out).mono ?_
                    rw [HD.out]
                    rintro e w8 ⟨rfl, hb8⟩
                    have HB8 : Hid (Below w.heap.size w w8) := HB7.out.trans (hb8.mono hs7)
                    have hne0 : (e0 == 0) = false := beq_eq_false_iff_ne.2 he0
                    have hne1 : (e0 != 0) = true := bne_iff_ne.2 he0
                    clear hb8 he0
                    go_wp2_with fail
                    go_quiet (fail)
                    go_wp2
                    go_ret
                    exact ⟨rfl, HB8.out.trans (Drw.below ⟨_, rfl⟩ _)⟩
                  · rintro e w7 ⟨gd, rfl, hC, hgd, hb7⟩
                    have HD := Lib.hid hd
                    have HB7 : Hid (Below w.heap.size w w7) := HB6.out.trans (hb7.mono hs6)
                    have hs7 := HB7.out.size
                    have HO7 := Lib.hid (HO6.out.below hb7)
                    have HC := Lib.hid hC
                    have HKB : Hid (Bytes out) := kinds_bytes (dec_ok hby.out hd).2
                    clear hb7 hd hC
                    go_wp2_with fail
                    refine (rdecode_any u12 b6 w7 HO7.out.RI hby.out).mono ?_
                    rw [HD.out]
                    rintro e w8 ⟨vd, rfl, hOd, hb8⟩
                    have HB8 : Hid (Below w.heap.size w w8) := HB7.out.trans (hb8.mono hs7)
                    have hs8 := HB8.out.size
                    have HC8 : Hid (Chk w8.drew gd out) := (HC.out.below hb8).below ((Below.refl _ _).drew)
                    have HOd : Hid (Own .u8 5 w8.drew w7.heap.size vd out) := hOd.drew
                    have hc9 : (convert 25 9 vd).run Try.prog w8.drew = .ok (.string (strB out)) w8.drew := str_any _ vd out HOd.out.RI HKB.out
                    clear hb8 hOd
                    go_wp2_with fail
                    go_region_law
                      ((go_simp; go_at_call 14; refine (bytes_any gd out w8.drew HC8.out).mono ?_; rintro e w9 ⟨v9, rfl, hO9, hb9⟩; have hcv9 : (convert 25 9 v9).run Try.prog w9 = .ok (.string (strB out)) w9 := str_any w9 v9 out hO9.RI HKB.out; have hcvd : (convert 25 9 vd).run Try.prog w9 = .ok (.string (strB out)) w9 := str_any w9 vd out (HOd.out.below hb9).RI HKB.out; have HB9 := Lib.hid hb9; clear hO9 hb9))
                    all_goals
                      go_wp2_with fail
                      go_ret
                      exact ⟨rfl, (HB8.out.drew).trans (HB9.out.mono hs8)⟩
end Go.Proofs.Ytpakcmcoafbgkaa.Cx
