/- The reference's Encode: just what 'enc' tells. -/
import Derived.Test.YtpakcmcoafbgkaaDj
namespace Go.Proofs.Ytpakcmcoafbgkaa.Cx
open Go.RowKit
set_option maxHeartbeats 6400000 in
set_option maxRecDepth 100000 in
theorem rencode_any (v : Value) (cs : List Int) (w : World) (h : RI .u8 w v cs) (hk : Kinds cs) (hl : (cs.length : Int) = 32768) : Calls Try.prog 13 #[v] w (NewRow .u8 5 (enc cs) w) := by
  obtain ⟨A, n, c, rfl⟩ : ∃ A n c, v = .slice A n c := by
    obtain ⟨A, c, e, _⟩ := h
    exact ⟨A, _, c, e⟩
  obtain ⟨ad, ea, -⟩ := h.at_ 0 (by have := h.len; omega)
  cases ea
  have HN := Lib.hid h.len
  have hni : (n : Int) ≤ 32768 := by have := h.len; omega
  have hnj : Hid ((n : Int) = 32768) := by have := h.len; show _ = _; omega
  have hlc := h.lc
  have H := Lib.hid h
  have HK := Lib.hid hk
  have HL := Lib.hid hl
  clear h hk hl
  have hb0 : ((n : Int) == 32768) = true := beq_iff_eq.2 hnj.out
  go_enter Try.func13, Try.ntmps13
  go_wp2_with fail
  refine (palette_any _ cs w H.out HK.out (by rw [HL.out]; omega)).mono ?_
  rintro e w1 ⟨vl, rfl, hOl, hb1⟩
  have hs1 := hb1.size
  have hpl := palK_le cs
  obtain ⟨A3, n3, c3, rfl⟩ := hOl.val
  have HN3 := Lib.hid hOl.len
  have hn3 : n3 ≤ 17 := by have := HN3.out; omega
  have HO1 := Lib.hid hOl
  have HB1 := Lib.hid hb1
  clear hOl hb1 hpl hb0
  have hob : Hid (Own .u8 5 (w1.alloc (.cells #[.int .u8 1, .int .u8 (n3 : Int)] 5)) w.heap.size (.slice (some ⟨w1.heap.size, 0, none⟩) 2 2) [1, (n3 : Int)]) :=
    Own.of_block (k := .u8) (e := 5) (xs := [1, (n3 : Int)]) (heap_alloc_new w1 _) hs1 (by simp)
  go_upto_block 0 with (first
    | (at_builtin; refine appR (w0 := w) w.heap.size rfl (.tmp 22) (.tmp 23) 25 5 .u8 1 rfl Try.underlying25 info5 (by omega) (.slice (some ⟨w1.heap.size, 0, none⟩) 2 2) [1, (n3 : Int)] (palK cs) (.slice A3 n3 c3) rfl rfl hob.out (HO1.out.RI.alloc _) (HB1.out.alloc hs1 _) (by simp; omega) (by have := HN3.out; simp; omega) ?_; intro v4 w4 h4 hb4 hg4 ha4; have hs4 := hb4.size; have H4 := Lib.hid h4; have HB4 := Lib.hid hb4; have HL4 : Hid (RI .u8 w4 (.slice A3 n3 c3) (palK cs)) := grown_box (HO1.out.RI.alloc _) (fun g hg => (HO1.out.base g hg).2) hg4; clear h4 hb4 hg4 ha4)
    | (at_builtin; refine appR (w0 := w4) w4.heap.size rfl (.const (.slice none 0 0)) (.tmp 25) 25 5 .u8 1 rfl Try.underlying25 info5 (by omega) (.slice none 0 0) [] ([1, (n3 : Int)] ++ palK cs) v4 rfl rfl (Own.nil _ _ _ _) H4.out.RI (Below.refl _ _) (Nat.le_refl _) (by have := HN3.out; simp; omega) ?_; intro v5 w5 h5 hb5 hg5 ha5; have hs5 := hb5.size; have H5 := Lib.hid h5; have HB5 := Lib.hid hb5; clear h5 hb5 hg5 ha5))
  have HC4 : Hid (RI .u8 w4 (.slice (some ad) n c) cs) := H.out.below HB4.out
  have hE0 : Hid (encR cs = ([] ++ ([1, (n3 : Int)] ++ palK cs)) ++ runsE n ((places cs).drop 0)) := by show _ = _; unfold encR; rw [HN3.out, ← HN.out]; simp
  have hl0 : ((([] ++ ([1, (n3 : Int)] ++ palK cs)).length : Nat) : Int) ≤ 40000 := by have := HN3.out; simp; omega
  generalize ([] ++ ([1, (n3 : Int)] ++ palK cs) : List Int) = out0 at *
  go_cut [5] (fun b wx => ∃ A8 n8 c8 outx, b = .slice A8 n8 c8 ∧ Hid (n8 = outx.length) ∧ Hid (Own .u8 5 wx w4.heap.size (.slice A8 n8 c8) outx) ∧ Hid (Below w4.heap.size w4 wx) ∧ Hid (encR cs = outx ∨ (40000 < n8 ∧ n8 ≤ (encR cs).length)))
  case first =>
    go_wp2_with fail
    go_loopg [5, 6] n (fun g b i wr => ∃ (k f : Nat) (out : List Int), k ≤ n ∧ i = .int .i64 k ∧ Hid (Own .u8 5 wr w4.heap.size b out) ∧ Hid (encR cs = out ++ runsE f ((places cs).drop k)) ∧ Hid (n - k ≤ f) ∧ Hid ((out.length : Int) ≤ 40000) ∧ Hid (Below w4.heap.size w4 wr) ∧ Hid (k + g = n))
    case atStart => exact ⟨0, n, out0, by omega, rfl, H5, hE0, by show _ ≤ _; omega, hl0, HB5, by show _ = _; omega⟩
    case round =>
      obtain ⟨k, f, out, hk, rfl, hO, hE, hf, hol, hB, hg⟩ := hrel
      obtain ⟨wo, hwo⟩ : ∃ wo, wo = wr := ⟨_, rfl⟩
      rw [← hwo] at hO hB ⊢
      clear hwo
      by_cases hkn : k < n
      · obtain ⟨_, ea, hx4⟩ := HC4.out.at_ k hkn
        cases ea
        have HCo : Hid (RI .u8 wo (.slice (some ad) n c) cs) := HC4.out.below hB.out
        have hxo : wo.cell? (ad.add k) = some (.int .u8 (cs.getD k 0)) := (hB.out.cell (World.block_lt_of_cell? _ _ hx4)).trans hx4
        obtain ⟨x, hxd⟩ : ∃ x, x = cs.getD k 0 := ⟨_, rfl⟩
        rw [← hxd] at hx4 hxo
        have HX := Lib.hid hxd
        clear hxd
        go_upto_block 2 with fail
        go_cut [7] (fun q wx => ∃ j m : Nat, 1 ≤ j ∧ k + j ≤ n ∧ q = .int .i64 ((k + j : Nat) : Int) ∧ Hid (runLen ((places cs).drop k) = j) ∧ wx = wo.drewN m)
        case first =>
          go_wp2_with fail
          go_loopg [7] (n - k) (fun g q wr2 => ∃ j m : Nat, k + j ≤ n ∧ q = .int .i64 ((k + j : Nat) : Int) ∧ Hid (∀ t, t < j → cs.getD (k + t) 0 = x) ∧ wr2 = wo.drewN m ∧ Hid (k + j + g = n))
          case atStart => exact ⟨0, 0, by omega, rfl, fun t ht => absurd ht (by omega), rfl, by show _ = _; omega⟩
          case round =>
            obtain ⟨j, m, hj, rfl, hal, rfl, hg2⟩ := hrel
            by_cases hjn : k + j < n
            · obtain ⟨_, ea, hy⟩ := HCo.out.at_ (k + j) hjn
              cases ea
              have hd : decide ((k : Int) + j < n) = true := decide_eq_true (by omega)
              by_cases he : cs.getD (k + j) 0 = x
              · have hal' : Hid (∀ t, t < j + 1 → cs.getD (k + t) 0 = x) := fun t ht => by
                  by_cases htj : t < j
                  · exact hal.out t htj
                  · obtain rfl : t = j := by omega
                    exact he
                rw [he] at hy
                clear he hal
                go_wp2_with fail
                go_quiet (fail)
                go_wp2
                go_roundg (gk - 1)
                case measure => have := hg2.out; omega
                case rel => exact ⟨j + 1, _, by omega, by go_num, hal', rfl, by have := hg2.out; show _ = _; omega⟩
              · have HJ1 : 1 ≤ j := by
                  rcases Nat.eq_zero_or_pos j with h0 | h0
                  · subst h0; exact absurd HX.out.symm he
                  · exact h0
                have hrun := Lib.hid (run_of_cells HK.out k j HJ1 (by have := HN.out; omega) (fun t ht => (hal.out t ht).trans HX.out) (.inr (by rw [← HX.out]; exact he)))
                have hb : (cs.getD (k + j) 0 == x) = false := beq_eq_false_iff_ne.2 he
                clear he hal
                generalize cs.getD (k + j) 0 = y at *
                go_wp2_with fail
                go_quiet (fail)
                go_wp2_with fail
                go_meet
                exact ⟨j, _, HJ1, hj, by go_num, hrun, World.drewN_drewN ..⟩
            · have HJ1 : 1 ≤ j := by omega
              have hrun := Lib.hid (run_of_cells HK.out k j HJ1 (by have := HN.out; omega) (fun t ht => (hal.out t ht).trans HX.out) (.inl (by have := HN.out; omega)))
              have hd : decide ((k : Int) + j < n) = false := decide_eq_false (by omega)
              clear hal
              go_wp2_with fail
              go_quiet (fail)
              go_wp2_with fail
              go_meet
              exact ⟨j, _, HJ1, hj, by go_num, hrun, World.drewN_drewN ..⟩
        case rest =>
          obtain ⟨j, m, hj1, hj, rfl, HRUN, hwx⟩ := hcut
          have hstep : Hid (runsE f ((places cs).drop k) = putN j ++ [plc (palK cs) x] ++ runsE (f - 1) ((places cs).drop (k + j))) := by
            have h := runsE_step f (places cs) k j (by rw [places_len]; have := HN.out; omega) (by rw [places_len]; have := HN.out; have := hf.out; omega) HRUN.out
            rw [places_get cs k (by have := HN.out; omega), ← HX.out] at h
            exact h
          have hpj : (putN j).length ≤ 3 := putN_len j (by omega)
          obtain ⟨wm, hwm⟩ : ∃ wm, wm = wc := ⟨_, rfl⟩
          have HBm : Hid (Below w4.heap.size w4 wm) := by rw [hwm, hwx]; exact hB.out.trans (Drw.below ⟨m, rfl⟩ _)
          have HOm : Hid (Own .u8 5 wm w4.heap.size u5 out) := by rw [hwm, hwx]; exact hO.out.kept fun _ _ => rfl
          rw [← hwm]
          clear hwm hO hB hwx
          have hsm := HBm.out.size
          have hji : (j : Int) ≤ 2147483647 := by omega
          have hjk : Hid ((k : Int) + j - k = j) := by show _ = _; omega
          go_wp2_with fail
          rw [hjk.out]
          refine (rput_any (.slice none 0 0) [] j wm (RI.nil _ _) (by simp) hji).mono ?_
          rintro e w6 ⟨v6, rfl, hO6, hb6⟩
          have hs6 := hb6.size
          have HO6 := Lib.hid hO6
          have HB6 : Hid (Below w4.heap.size w4 w6) := HBm.out.trans (hb6.mono hsm)
          have HOm6 : Hid (Own .u8 5 w6 w4.heap.size u5 out) := HOm.out.below hb6
          clear hO6 hb6
          have hol9 := hol.out
          go_wp2_with (at_builtin; refine appR (w0 := w4) w4.heap.size rfl (.tmp 53) (.tmp 54) 25 5 .u8 1 rfl Try.underlying25 info5 (by omega) u5 out ([] ++ putN j) v6 rfl rfl HOm6.out HO6.out.RI HB6.out (by omega) (by simp; omega) ?_; intro v7 w7 h7 hb7 hg7 ha7; have H7 := Lib.hid h7; have HB7 := Lib.hid hb7; have hs7 := hb7.size; have hxk7 : w7.cell? (ad.add k) = some (.int .u8 x) := (hb7.cell (World.block_lt_of_cell? _ _ hx4)).trans hx4; clear h7 hb7 hg7 ha7)
          have hxm : x ∈ cs := by rw [HX.out]; exact getD_mem (by have := HN.out; omega)
          have hp3 : IsPlace (palK cs) x (plc (palK cs) x) := plc_of_mem (palTo_rising cs 17) (palK_mem (fun y hy => HK.out y hy) hxm)
          obtain ⟨p0, p1, -⟩ := hp3
          refine (place_any (.slice A3 n3 c3) (palK cs) x w7 (HL4.out.below HB7.out) (palTo_rising cs 17) (palK_mem (fun y hy => HK.out y hy) hxm)).mono ?_
          rintro e w7' ⟨rfl, rfl⟩
          rw [← HN3.out] at p1
          clear hxm
          generalize hpd : plc (palK cs) x = pp at *
          clear hpd
          have hE8 : Hid (encR cs = (out ++ ([] ++ putN j) ++ [pp]) ++ runsE (f - 1) ((places cs).drop (k + j))) := by show _ = _; rw [hE.out, hstep.out]; simp
          have HLEN : Hid (((out ++ ([] ++ putN j) ++ [pp]).length : Int) = out.length + (putN j).length + 1) := by show _ = _; simp only [List.length_append, List.length_nil, List.length_singleton]; omega
          by_cases hbrk : (40000 : Int) < out.length + (putN j).length + 1
          · have HBRK := Lib.hid hbrk
            clear hbrk
            go_wp2_with (at_builtin; refine appR (w0 := w4) w4.heap.size rfl (.tmp 56) (.tmp 64) 25 5 .u8 1 rfl Try.underlying25 info5 (by omega) v7 (out ++ ([] ++ putN j)) [pp] (.slice (some ⟨w7.heap.size, 0, none⟩) 1 1) rfl rfl (H7.out.alloc _) (RI.box .u8 5 w7 [pp] (by simp) (0, 0)) (HB7.out.alloc hs7 _) (by simp; omega) (by simp; omega) ?_; intro v8 w8 h8 hb8 hg8 ha8; obtain ⟨A8, n8, c8, rfl⟩ := h8.val; have hn8 : (40000 : Int) < n8 := (by have e := h8.len; have e1 := HLEN.out; have e9 := HBRK.out; rw [e]; omega); have hdn : decide ((40000 : Int) < n8) = true := decide_eq_true hn8; have HN8H := Lib.hid hn8; clear hn8; have HN8 := Lib.hid h8.len; have H8 := Lib.hid h8; have HB8 := Lib.hid hb8; clear h8 hb8 hg8 ha8)
            go_meet
            exact ⟨A8, n8, c8, _, rfl, HN8, H8, HB8, .inr ⟨by have := HN8H.out; omega, by rw [hE8.out, List.length_append, ← HN8.out]; omega⟩⟩
          · have HBRK := Lib.hid hbrk
            clear hbrk
            go_wp2_with (at_builtin; refine appR (w0 := w4) w4.heap.size rfl (.tmp 56) (.tmp 64) 25 5 .u8 1 rfl Try.underlying25 info5 (by omega) v7 (out ++ ([] ++ putN j)) [pp] (.slice (some ⟨w7.heap.size, 0, none⟩) 1 1) rfl rfl (H7.out.alloc _) (RI.box .u8 5 w7 [pp] (by simp) (0, 0)) (HB7.out.alloc hs7 _) (by simp; omega) (by simp; omega) ?_; intro v8 w8 h8 hb8 hg8 ha8; obtain ⟨A8, n8, c8, rfl⟩ := h8.val; have hn8 : (n8 : Int) ≤ 40000 := (by have e := h8.len; have e1 := HLEN.out; have e9 := HBRK.out; rw [e]; omega); have hdn : decide ((40000 : Int) < n8) = false := decide_eq_false (by omega); have HN8H := Lib.hid hn8; clear hn8; have HN8 := Lib.hid h8.len; have H8 := Lib.hid h8; have HB8 := Lib.hid hb8; clear h8 hb8 hg8 ha8)
            go_roundg (n - (k + j))
            case measure => have := hg.out; omega
            case rel =>
              refine ⟨k + j, f - 1, _, hj, by go_num, H8, hE8, ?_, ?_, HB8, ?_⟩
              · have := hf.out; show _ ≤ _; omega
              · show _ ≤ _; rw [← HN8.out]; exact HN8H.out
              · show _ = _; omega
      · obtain rfl : n = k := by omega
        obtain ⟨A8, n8, c8, rfl⟩ := hO.out.val
        have HN8 := Lib.hid hO.out.len
        have HP : Hid (encR cs = out ∨ (40000 < n8 ∧ n8 ≤ (encR cs).length)) := .inl (by
          have h := hE.out
          rw [List.drop_of_length_le (by rw [places_len]; have := HN.out; omega)] at h
          rw [h]; cases f <;> simp [runsE])
        go_wp2_with fail
        go_meet
        exact ⟨A8, n8, c8, _, rfl, HN8, hO, hB, HP⟩
  case rest =>
    obtain ⟨A8, n8, c8, outx, rfl, HN8, H8, HB8, HP⟩ := hcut
    obtain ⟨w8, hw8⟩ : ∃ w8, w8 = wc := ⟨_, rfl⟩
    rw [← hw8] at H8 HB8 ⊢
    clear hw8 H5 HB5 hE0 hl0
    go_wp2_with fail
    have hs8 := HB8.out.size
    have HB8w : Hid (Below w.heap.size w w8) := HB4.out.trans (HB8.out.mono hs4)
    have hs8w : w.heap.size ≤ w8.heap.size := HB8w.out.size
    obtain ⟨A4, n4, c4, rfl⟩ := H4.out.val
    have HN4 : Hid (n4 = n3 + 2) := by
      have e := H4.out.len
      rw [List.length_append, ← HN3.out] at e
      show _ = _; rw [e]; show 2 + n3 = n3 + 2; omega
    have hn4 : n4 ≤ 19 := by have := HN4.out; omega
    refine (rwidth_any n3 (by omega) _).mono ?_
    rintro e w8' ⟨rfl, rfl⟩
    obtain ⟨wd, hwdd⟩ : ∃ wd, wd = widthN n3 := ⟨_, rfl⟩
    have HWC : Hid (wd = 1 ∨ wd = 2 ∨ wd = 4 ∨ wd = 8) := by rw [hwdd]; exact widthN_cases _
    have HWF := Lib.hid (width_fits2 n3 hn3)
    rw [← hwdd] at HWF ⊢
    have hwd8 : wd ≤ 8 := by have := HWC.out; omega
    have hwd1 : 1 ≤ wd := by have := HWC.out; omega
    have HEB : Hid ((encB cs).length = n4 + 4096 * wd) := by
      have h := (bits_cs (fun x hx => HK.out x hx) HL.out).2
      rw [← HN3.out, ← hwdd] at h
      show _ = _
      unfold encB
      rw [List.length_cons, List.length_cons, List.length_append, ← HN3.out, ← hwdd, h, HN4.out]; omega
    have HWDD := Lib.hid hwdd
    clear hwdd
    have hc8 := H8.out.RI.lc
    by_cases hle : (n8 : Int) ≤ n4 + 4096 * wd
    · have hdl : decide ((n8 : Int) ≤ n4 + 4096 * wd) = true := decide_eq_true hle
      have hen : Hid (enc cs = outx) := by
        have hne : encR cs = outx := by
          rcases HP.out with h | h
          · exact h
          · exfalso; have := h.1; omega
        show _ = _
        unfold enc
        rw [if_pos, hne]
        rw [hne, ← HN8.out, HEB.out]; omega
      clear hle
      go_wp2_with fail
      go_ret
      refine ⟨_, rfl, ?_, HB8w.out⟩
      rw [hen.out]
      exact H8.out.mono hs4
    · have hdl : decide ((n8 : Int) ≤ n4 + 4096 * wd) = false := decide_eq_false hle
      have hen : Hid (enc cs = encB cs) := by
        show _ = _
        unfold enc
        rw [if_neg]
        rw [HEB.out]
        rcases HP.out with h | h
        · rw [h, ← HN8.out]; omega
        · have := h.2; omega
      clear hle HP HN8
      have HR4 : Hid (RI .u8 w8 (.slice A4 n4 c4) ([1, (n3 : Int)] ++ palK cs)) := H4.out.RI.below (HB8.out.mono (Nat.le_refl _))
      go_wp2_with (at_builtin; refine appR (w0 := w4) w4.heap.size rfl (.const (.slice none 0 0)) (.tmp 82) 25 5 .u8 1 rfl Try.underlying25 info5 (by omega) (.slice none 0 0) [] ([1, (n3 : Int)] ++ palK cs) (.slice A4 n4 c4) rfl rfl (Own.nil _ _ _ _) HR4.out HB8.out hs8 (by have := HN3.out; simp; omega) ?_; intro v9 w9 h9 hb9 hg9 ha9; obtain ⟨g9, c9, cur9, rfl, hg9b, -⟩ := h9.form (by simp); have hfz9 := Own.frozen h9 0; have hx9 : w9.cell? ⟨g9, 0, none⟩ = some (.int .u8 1) := (by obtain ⟨_, ea, hx⟩ := h9.RI.at_ 0 (by simp); cases ea; exact hx); have H9 := Lib.hid (h9.store 0 2).1; have HB9 := Lib.hid (hb9.setCell (p := ⟨g9, 0, none⟩) hg9b (.int .u8 2)); have HN9 : Hid ((([] ++ ([1, (n3 : Int)] ++ palK cs)).length : Int) = n4) := (by have := HN4.out; have := HN3.out; show _ = _; simp; omega); clear h9 hb9 hg9 ha9)
      obtain ⟨G, hG⟩ : ∃ G, G = 8 / wd := ⟨_, rfl⟩
      have hG1 : 1 ≤ G := by rcases HWC.out with h | h | h | h <;> subst h <;> subst hG <;> decide
      have hG8 : G ≤ 8 := by rcases HWC.out with h | h | h | h <;> subst h <;> subst hG <;> decide
      have HWG : Hid (wd * G ≤ 8) := by
        show _ ≤ _
        rcases HWC.out with h | h | h | h <;> subst h <;> subst hG <;> decide
      have HNT : Hid (n = 4096 * wd * G) := by have h := HWF.out.2.2.1; rw [← hG] at h; rw [← h]; show _ = _; have := hnj.out; omega
      have hq8 : (8 : Int) / (wd : Int) = (G : Int) := by rw [hG]; rfl
      have HG := Lib.hid hG.symm
      clear hG
      have hEB0 : Hid (encB cs = (([] ++ ([1, (n3 : Int)] ++ palK cs)) : List Int).set 0 2 ++ bitsE wd n ((places cs).drop 0)) := by show _ = _; unfold encB; rw [← HN3.out, ← HWDD.out, HN.out]; rfl
      have HW9 : Hid (RI .u8 (w9.setCell ⟨g9, 0, none⟩ (.int .u8 2)) (.slice (some ad) n c) cs) := HC4.out.below HB9.out
      have HG9 : Hid (Own .u8 5 (w9.setCell ⟨g9, 0, none⟩ (.int .u8 2)) w4.heap.size (.slice (some ⟨g9, 0, none⟩) ((palK cs).length + 1 + 1) c9) ((([] ++ ([1, (n3 : Int)] ++ palK cs)) : List Int).set 0 2)) := by
        have h := H9.out
        rw [show (([] ++ ([1, (n3 : Int)] ++ palK cs)) : List Int).length = (palK cs).length + 1 + 1 by simp] at h
        exact h
      clear H9
      go_loopg [10, 11] n (fun gh b i wr => ∃ (q t f : Nat) (out : List Int), q ≤ n ∧ Hid (q + gh = n) ∧ i = .int .i64 q ∧ Hid (q = t * G) ∧ Hid (Own .u8 5 wr w4.heap.size b out) ∧ Hid (encB cs = out ++ bitsE wd f ((places cs).drop q)) ∧ Hid (n - q ≤ f) ∧ Hid ((out.length : Int) ≤ 100 + q) ∧ Hid (Below w4.heap.size w4 wr))
      case atStart => exact ⟨0, 0, n, _, by omega, by show _ = _; omega, rfl, by show _ = _; omega, HG9, hEB0, by show _ ≤ _; omega, by show _ ≤ _; rw [List.length_set]; have := HN9.out; omega, HB9⟩
      case round =>
        obtain ⟨q, t, f, out, hq, hgh, rfl, hqt, hO, hE, hf, hol, hB⟩ := hrel
        obtain ⟨wo, hwo⟩ : ∃ wo, wo = wr := ⟨_, rfl⟩
        rw [← hwo] at hO hB ⊢
        clear hwo
        by_cases hqn : q < n
        · have hqG : q + G ≤ n := by
            have h1 := hqt.out
            have h2 := HNT.out
            have h3 : t < 4096 * wd := by
              rw [h1, h2] at hqn
              exact Nat.lt_of_mul_lt_mul_right hqn
            have h4 : (t + 1) * G ≤ 4096 * wd * G := Nat.mul_le_mul_right _ h3
            rw [Nat.succ_mul] at h4
            omega
          have hqt' : Hid (q + G = (t + 1) * G) := by show _ = _; rw [Nat.succ_mul, hqt.out]
          have HCo : Hid (RI .u8 wo (.slice (some ad) n c) cs) := HC4.out.below hB.out
          have HLo : Hid (RI .u8 wo (.slice A3 n3 c3) (palK cs)) := HL4.out.below hB.out
          go_wp2_with fail
          simp only [hq8]
          go_loopg [12, 13] G (fun g2 v k wr => ∃ (j : Nat) (acc : Int), j = g2 ∧ j ≤ G ∧ k = .int .i64 ((j : Int) - 1) ∧ v = .int .i64 acc ∧ Hid (acc = packB wd ((((places cs).drop q).take G).drop j)) ∧ wr = wo)
          case atStart => exact ⟨G, 0, rfl, Nat.le_refl _, rfl, rfl, by
            show _ = _
            rw [List.drop_of_length_le (by rw [List.length_take]; exact Nat.min_le_left _ _)]; rfl, rfl⟩
          case round =>
            obtain ⟨j, acc, hjg, hj, rfl, rfl, hacc, hwr⟩ := hrel
            have HJG := Lib.hid hjg
            rw [hwr]
            clear hjg hwr
            have hpf : ∀ p ∈ places cs, 0 ≤ p ∧ p < 2 ^ wd := fun p hp => by
              have h1 := places_lt (fun x hx => HK.out x hx) p hp
              have h2 := HWF.out.1
              rw [HN3.out] at h2
              exact ⟨h1.1, by omega⟩
            have HPF := Lib.hid hpf
            clear hpf
            rcases j with _ | j
            · rw [List.drop_zero] at hacc
              have hl : (((places cs).drop q).take G).length = G := by rw [List.length_take, List.length_drop, places_len, HN.out]; omega
              have hrg := packB_range wd (((places cs).drop q).take G) (fun p h => HPF.out p (List.mem_of_mem_drop (List.mem_of_mem_take h)))
              rw [hl, ← hacc.out] at hrg
              have h256 : (2 : Int) ^ (wd * G) ≤ 256 := by
                have h1 : (2 : Nat) ^ (wd * G) ≤ 2 ^ 8 := Nat.pow_le_pow_right (by decide) HWG.out
                have h2 : ((2 ^ (wd * G) : Nat) : Int) ≤ ((2 ^ 8 : Nat) : Int) := by exact_mod_cast h1
                rw [Int.natCast_pow] at h2
                exact h2
              have ha0 : 0 ≤ acc := hrg.1
              have ha1 : acc ≤ 255 := by have := hrg.2; omega
              have hgr := bitsE_group wd G q f (places cs) HG.out hG1 (by rw [places_len, HN.out]; exact hqG) (by rw [places_len, HN.out]; exact hf.out)
              rw [← hacc.out] at hgr
              have hE' : Hid (encB cs = (out ++ [acc]) ++ bitsE wd (f - 1) ((places cs).drop (q + G))) := by show _ = _; rw [hE.out, hgr]; simp
              have hso := hB.out.size
              have hf' : Hid (n - (q + G) ≤ f - 1) := by have := hf.out; show _ ≤ _; omega
              have hol' : Hid (((out ++ [acc]).length : Int) ≤ 100 + ((q + G : Nat) : Int)) := by have := hol.out; show _ ≤ _; rw [List.length_append, List.length_singleton]; omega
              clear hrg h256 hgr hl
              go_wp2_with (at_builtin; refine appR (w0 := w4) w4.heap.size rfl (.tmp 114) (.tmp 117) 25 5 .u8 1 rfl Try.underlying25 info5 (by omega) u10 out [acc] (.slice (some ⟨wo.heap.size, 0, none⟩) 1 1) rfl rfl (hO.out.alloc _) (RI.box .u8 5 wo [acc] (by simp) (0, 0)) (hB.out.alloc hso _) (by simp; omega) (by have := hol.out; rw [List.length_singleton]; omega) ?_; intro v7 w7 h7 hb7 hg7 ha7; have H7 := Lib.hid h7; have HB7 := Lib.hid hb7; clear h7 hb7 hg7 ha7)
              go_roundg (n - (q + G))
              case measure => have := hgh.out; omega
              case rel => exact ⟨q + G, t + 1, f - 1, out ++ [acc], hqG, by show _ = _; omega, by go_num, hqt', H7, hE', hf', hol', HB7⟩
            · rw [show ((j + 1 : Nat) : Int) - 1 = (j : Int) by omega]
              obtain ⟨_, ea, hy⟩ := HCo.out.at_ (q + j) (by omega)
              cases ea
              have hps : Hid (packB wd ((((places cs).drop q).take G).drop j) = (places cs).getD (q + j) 0 + 2 ^ wd * packB wd ((((places cs).drop q).take G).drop (j + 1))) := pack_step wd G q j (places cs) (by omega) (by rw [places_len, HN.out]; exact hqG)
              have hsm := pack_small wd G q j (places cs) hj HWG.out HPF.out (by rw [places_len, HN.out]; exact hqG)
              rw [places_get cs (q + j) (by rw [HN.out]; omega)] at hps
              have hym : cs.getD (q + j) 0 ∈ cs := getD_mem (by rw [HN.out]; omega)
              rw [← hacc.out] at hps hsm
              generalize cs.getD (q + j) 0 = y at *
              have HYM := Lib.hid hym
              obtain ⟨hsm1, hsm2⟩ := hsm
              have HSM := Lib.hid hsm2
              have ha0 : 0 ≤ acc * 2 ^ wd := Int.mul_nonneg hsm1 (Int.le_of_lt (Int.pow_pos (by decide)))
              have ha1 : acc * 2 ^ wd ≤ 256 := by have : (0 : Int) < 2 ^ wd := Int.pow_pos (by decide); omega
              clear hsm2 hym
              go_wp2_with fail
              refine (place_any (.slice A3 n3 c3) (palK cs) y wo HLo.out (palTo_rising cs 17) (palK_mem (fun z hz => HK.out z hz) HYM.out)).mono ?_
              rintro e w' ⟨rfl, rfl⟩
              have hpp := HPF.out (plc (palK cs) y) (List.mem_map_of_mem HYM.out)
              have hor := or64 wd acc (plc (palK cs) y) hsm1 HSM.out hpp.1 hpp.2
              have HPS : Hid (plc (palK cs) y + 2 ^ wd * acc = packB wd ((((places cs).drop q).take G).drop j)) := hps.out.symm
              generalize plc (palK cs) y = pp at *
              have HPP := Lib.hid hpp
              clear hpp
              go_wp2_with fail
              go_roundg j
              case measure => have := HJG.out; omega
              case rel => exact ⟨j, pp + 2 ^ wd * acc, rfl, by omega, by go_num, rfl, HPS, rfl⟩
        · have hfin : Hid (encB cs = out) := by
            have h := hE.out
            rw [List.drop_of_length_le (by rw [places_len]; have := HN.out; omega)] at h
            show _ = _
            rw [h]; cases f <;> simp [bitsE]
          go_wp2_with fail
          go_ret
          refine ⟨_, rfl, ?_, HB4.out.trans (hB.out.mono hs4)⟩
          rw [hen.out, hfin.out]
          exact hO.out.mono hs4
end Go.Proofs.Ytpakcmcoafbgkaa.Cx
