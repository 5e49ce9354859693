/- The reader reads all: just what 'dec' tells. -/
import Derived.Test.YtpakcmcoafbgkaaCe
import Derived.Test.YtpakcmcoafbgkaaCf
import Derived.Test.YtpakcmcoafbgkaaCg
namespace Go.Proofs.Ytpakcmcoafbgkaa.Cx
open Go.RowKit
theorem RS.setPal {w : World} {B br : Nat} {vb vp vo v : Value} {b pal out pal' : List Int} (h : RS w B br vb vp vo b pal out) (hv : RI .u8 w v pal') (hl : Low B v) :
    RS (w.setCell ⟨br, 1, none⟩ v) B br vb v vo b pal' out := by
  have hB : Below B w (w.setCell ⟨br, 1, none⟩ v) := (Below.refl B w).setCell h.rd.le _
  refine ⟨⟨?_, ?_, h.rd.ne, h.rd.le⟩, h.rb.low h.lb hB, hv.low hl hB, h.lb, hl⟩
  · rw [heap_setCell_same w br 1 _ _ _ h.rd.blk]; rfl
  · exact h.rd.own.kept fun g hg => heap_setCell_other w _ _ _ (fun e => h.rd.ne (by rw [hg, e]))
def ReadPost (r : Except Int (List Int)) (w : World) (B br : Nat) (e : Ending) (w' : World) : Prop :=
  match r with
  | .error c => e = .panicked (broke c) ∧ Below B w w'
  | .ok out => e = .returned (.tuple #[]) ∧ (∃ vb' vp' vo', Rdr w' B br vb' vp' vo' out) ∧ Below B w w'
theorem ReadPost.error {c : Int} {w : World} {B br : Nat} {w' : World} {r : Except Int (List Int)} (hr : r = .error c) (hb : Below B w w') : ReadPost r w B br (.panicked (broke c)) w' := by subst hr; exact ⟨rfl, hb⟩
theorem ReadPost.ok {out vb' vp' vo' : _} {w : World} {B br : Nat} {w' : World} {r : Except Int (List Int)} (hr : r = .ok out) (hs : Rdr w' B br vb' vp' vo' out) (hb : Below B w w') : ReadPost r w B br (.returned (.tuple #[])) w' := by subst hr; exact ⟨rfl, ⟨_, _, _, hs⟩, hb⟩
theorem dec_short {b : List Int} (h : b.length < 2) : dec b = .error 3 := by unfold dec; rw [if_pos h]
theorem dec_form {b : List Int} (h : ¬ b.length < 2) (hc : ¬ ((b.getD 0 0 = 1 ∨ b.getD 0 0 = 2) ∧ 1 ≤ b.getD 1 0 ∧ b.getD 1 0 ≤ 17)) : dec b = .error 4 := by unfold dec; rw [if_neg h, if_neg hc]
theorem dec_short2 {b : List Int} (h : ¬ b.length < 2) (hc : (b.getD 0 0 = 1 ∨ b.getD 0 0 = 2) ∧ 1 ≤ b.getD 1 0 ∧ b.getD 1 0 ≤ 17) (hl : b.length < 2 + (b.getD 1 0).toNat) : dec b = .error 3 := by unfold dec; rw [if_neg h, if_pos hc, if_pos hl]
theorem dec_pal {b : List Int} (h : ¬ b.length < 2) (hc : (b.getD 0 0 = 1 ∨ b.getD 0 0 = 2) ∧ 1 ≤ b.getD 1 0 ∧ b.getD 1 0 ≤ 17) (hl : ¬ b.length < 2 + (b.getD 1 0).toNat) (hp : ¬ PalOk ((b.drop 2).take (b.getD 1 0).toNat)) : dec b = .error 4 := by unfold dec; rw [if_neg h, if_pos hc, if_neg hl, if_neg hp]
theorem dec_go {b : List Int} (h : ¬ b.length < 2) (hc : (b.getD 0 0 = 1 ∨ b.getD 0 0 = 2) ∧ 1 ≤ b.getD 1 0 ∧ b.getD 1 0 ≤ 17) (hl : ¬ b.length < 2 + (b.getD 1 0).toNat) (hp : PalOk ((b.drop 2).take (b.getD 1 0).toNat)) :
    dec b = formD (b.getD 0 0) (b.drop (2 + (b.getD 1 0).toNat)) ((b.drop 2).take (b.getD 1 0).toNat) := by unfold dec; rw [if_neg h, if_pos hc, if_neg hl, if_pos hp]
theorem take2_0 (b : List Int) : (b.take 2).getD 0 0 = b.getD 0 0 := by rw [List.getD_eq_getElem?_getD, List.getD_eq_getElem?_getD, List.getElem?_take, if_pos (by omega)]
theorem take2_1 (b : List Int) : (b.take 2).getD 1 0 = b.getD 1 0 := by rw [List.getD_eq_getElem?_getD, List.getD_eq_getElem?_getD, List.getElem?_take, if_pos (by omega)]

theorem formD_1e {r pal : List Int} {c : Int} (h : runsD 32768 r pal [] = .error c) : formD 1 r pal = .error c := by unfold formD; rw [if_pos rfl, h]
theorem formD_1o {r pal b' out : List Int} (h : runsD 32768 r pal [] = .ok (b', out)) (hz : b'.length = 0) : formD 1 r pal = .ok out := by unfold formD; rw [if_pos rfl, h]; exact if_pos hz
theorem formD_1l {r pal b' out : List Int} (h : runsD 32768 r pal [] = .ok (b', out)) (hz : ¬ b'.length = 0) : formD 1 r pal = .error 2 := by unfold formD; rw [if_pos rfl, h]; exact if_neg hz
theorem formD_2e {r pal : List Int} {c : Int} (h : bitsR (widthN pal.length) r pal = .error c) : formD 2 r pal = .error c := by
  unfold bitsR at h
  unfold formD; rw [if_neg (by decide)]
  split at h
  · rename_i hs; rw [if_pos hs]; injection h with h; rw [h]
  · rename_i hs; rw [if_neg hs]
    cases hb : bitsD (widthN pal.length) (r.take (4096 * widthN pal.length)) pal [] with
    | error c' => rw [hb] at h; injection h with h; rw [h]
    | ok o => rw [hb] at h; cases h
theorem formD_2o {r pal b' out : List Int} (h : bitsR (widthN pal.length) r pal = .ok (b', out)) : formD 2 r pal = if b'.length = 0 then .ok out else .error 2 := by
  unfold bitsR at h
  unfold formD; rw [if_neg (by decide)]
  split at h
  · cases h
  · rename_i hs; rw [if_neg hs]
    cases hb : bitsD (widthN pal.length) (r.take (4096 * widthN pal.length)) pal [] with
    | error c' => rw [hb] at h; cases h
    | ok o =>
      rw [hb] at h; injection h with h; injection h with h1 h2
      subst h1; subst h2
      simp only [List.length_drop]
      by_cases hz : r.length ≤ 4096 * widthN pal.length
      · rw [if_pos hz, if_pos (by omega)]
      · rw [if_neg hz, if_neg (by omega)]
set_option maxHeartbeats 1600000 in
set_option maxRecDepth 100000 in
theorem read_any {w : World} {B br : Nat} {vb vo : Value} {b : List Int} (h : RS w B br vb (.slice none 0 0) vo b [] []) (hb : Bytes b) :
    Calls Try.prog 31 #[.pointer (some ⟨br,0,none⟩)] w (ReadPost (dec b) w B br) := by
  have H := Lib.hid h; clear h
  generalize hr : dec b = r
  have HR := Lib.hid hr; clear hr
  by_cases h2 : b.length < 2
  · have hE : Hid (r = .error 3) := HR.out.symm.trans (dec_short h2)
    go_enter Try.func31, Try.ntmps31
    go_wp2_with fail
    refine (rtake_no H.out 2 (by omega) (by omega)).mono ?_
    rintro e w1 ⟨rfl, rfl⟩
    exact ⟨rfl, ReadPost.error hE.out (Below.refl _ _)⟩
  · obtain ⟨f0, f1⟩ := hb.at_ 0
    obtain ⟨n0, n1⟩ := hb.at_ 1
    by_cases hc : (b.getD 0 0 = 1 ∨ b.getD 0 0 = 2) ∧ 1 ≤ b.getD 1 0 ∧ b.getD 1 0 ≤ 17
    · by_cases hs2 : b.length < 2 + (b.getD 1 0).toNat
      · have hE : Hid (r = .error 3) := HR.out.symm.trans (dec_short2 h2 hc hs2)
        clear HR
        go_enter Try.func31, Try.ntmps31
        go_wp2_with fail
        refine (rtake_ok H.out 2 (by omega) (by omega)).mono ?_
        rintro e w1 ⟨A1, c1, vb1, rfl, hT, hL, hS, hb1⟩
        rw [show (2 : Int).toNat = 2 from rfl] at *
        obtain ⟨ad, ea, hx0⟩ := hT.out.at_ 0 (by omega)
        cases ea
        obtain ⟨ad', ea, hx1⟩ := hT.out.at_ 1 (by omega)
        cases ea
        rw [take2_0, show ad.add 0 = ad from rfl] at hx0
        rw [take2_1] at hx1
        replace hx1 : w1.cell? { block := ad.block, off := ad.off + 1 } = some (.int .u8 (b.getD 1 0)) := hx1
        clear hT hL
        have hdl : (b.drop 2).length = b.length - 2 := List.length_drop
        generalize b.drop 2 = b2 at *
        generalize b.getD 0 0 = f at *
        generalize b.getD 1 0 = n at *
        obtain ⟨hf, h3, h4⟩ := hc
        rcases hf with rfl | rfl
        all_goals
          go_wp2_with fail
          refine (must_ok _ _).mono ?_
          rintro e w2 ⟨rfl, rfl⟩
          go_wp2_with fail
          refine (rtake_no hS.out n (by omega) (by omega)).mono ?_
          rintro e w2 ⟨rfl, rfl⟩
          exact ⟨rfl, ReadPost.error hE.out hb1⟩
      · have HG : Hid (¬ PalOk ((b.drop 2).take (b.getD 1 0).toNat) → r = .error 4) := fun hp => HR.out.symm.trans (dec_pal h2 hc hs2 hp)
        have HG2 : Hid (PalOk ((b.drop 2).take (b.getD 1 0).toNat) → r = formD (b.getD 0 0) (b.drop (2 + (b.getD 1 0).toNat)) ((b.drop 2).take (b.getD 1 0).toNat)) := fun hp => HR.out.symm.trans (dec_go h2 hc hs2 hp)
        clear HR
        go_enter Try.func31, Try.ntmps31
        go_wp2_with fail
        refine (rtake_ok H.out 2 (by omega) (by omega)).mono ?_
        rintro e w1 ⟨A1, c1, vb1, rfl, hT, hL, hS, hb1⟩
        rw [show (2 : Int).toNat = 2 from rfl] at *
        obtain ⟨ad, ea, hx0⟩ := hT.out.at_ 0 (by omega)
        cases ea
        obtain ⟨ad', ea, hx1⟩ := hT.out.at_ 1 (by omega)
        cases ea
        rw [take2_0, show ad.add 0 = ad from rfl] at hx0
        rw [take2_1] at hx1
        replace hx1 : w1.cell? { block := ad.block, off := ad.off + 1 } = some (.int .u8 (b.getD 1 0)) := hx1
        have hadB : ad.block < B := hL.out _ rfl
        clear hT hL
        have hdl : (b.drop 2).length = b.length - 2 := List.length_drop
        have hdd : (b.drop 2).drop (b.getD 1 0).toNat = b.drop (2 + (b.getD 1 0).toNat) := List.drop_drop
        have hB2 : Bytes (b.drop (2 + (b.getD 1 0).toNat)) := hb.drop _
        have hBp : Bytes ((b.drop 2).take (b.getD 1 0).toNat) := (hb.drop 2).take _
        rw [← hdd] at HG2 hB2
        clear hdd
        generalize b.drop 2 = b2 at *
        generalize b.getD 0 0 = f at *
        generalize b.getD 1 0 = n at *
        obtain ⟨hf, h3, h4⟩ := hc
        obtain ⟨nn, rfl⟩ := Int.eq_ofNat_of_zero_le n0
        rw [Int.toNat_natCast] at *
        have HB2 := Lib.hid hB2
        have HBp := Lib.hid hBp
        clear hB2 hBp hb h2
        have hpl : Hid ((b2.take nn).length = nn) := (List.length_take).trans (Nat.min_eq_left (by omega))
        generalize hpe : b2.take nn = pal at *
        generalize hre : b2.drop nn = rest at *
        have HPe := Lib.hid hpe
        have HRe := Lib.hid hre
        clear hpe hre
        rcases hf with rfl | rfl
        all_goals
          go_wp2_with fail
          refine (must_ok _ _).mono ?_
          rintro e w2 ⟨rfl, rfl⟩
          go_wp2_with fail
          refine (rtake_ok hS.out nn (by omega) (by omega)).mono ?_
          rintro e w2 ⟨A2, c2, vb2, rfl, hT2, hL2, hS2, hb2⟩
          rw [Int.toNat_natCast] at *
          rw [HPe.out] at hT2
          rw [HRe.out] at hS2
          have d1 := hS2.out.rd.c1
          have f1 := hS2.out.rd.fz 1
          go_wp2_with fail
          clear d1 f1
          have hS3 := Lib.hid (hS2.out.setPal hT2.out hL2.out)
          have hb3 : Below B w2 (w2.setCell ⟨br, 1, none⟩ (.slice A2 nn c2)) := (Below.refl B w2).setCell hS2.out.rd.le _
          have y0 := ((hb2.trans hb3).cell hadB).trans hx0
          have hbw := (hb1.trans hb2).trans hb3
          clear hx0 hx1 hS2 hT2 hL2 hb1 hb2 hb3
          generalize w2.setCell ⟨br, 1, none⟩ (.slice A2 nn c2) = w3 at *
          go_loop [44] (fun i => ∃ k : Nat, k ≤ nn ∧ i = .int .i64 k ∧ Hid (∀ i, i < k → pal.getD i 0 ≤ 16 ∧ (i = 0 ∨ pal.getD (i - 1) 0 < pal.getD i 0))) (fun i => nn - (intOf i).toNat)
          case atStart => exact ⟨0, by omega, rfl, fun i hi => absurd hi (by omega)⟩
          case round =>
            obtain ⟨k, hk, rfl, hA⟩ := hrel
            by_cases hkn : (k : Int) < nn
            · obtain ⟨adp, ea, hp⟩ := hS3.out.rp.at_ k (by omega)
              cases ea
              have d1 := hS3.out.rd.c1
              obtain ⟨p0, p1⟩ := HBp.out.at_ k
              by_cases h16 : pal.getD k 0 ≤ 16
              · by_cases hk0 : k = 0
                · subst hk0
                  have hN : Hid (∀ i, i < 0 + 1 → pal.getD i 0 ≤ 16 ∧ (i = 0 ∨ pal.getD (i - 1) 0 < pal.getD i 0)) := fun i hi => by
                    obtain rfl : i = 0 := by omega
                    exact ⟨h16, .inl rfl⟩
                  generalize pal.getD 0 0 = p at *
                  rw [show adp.add 0 = adp from rfl] at hp
                  go_wp2_with fail
                  refine (must_ok _ _).mono ?_
                  rintro e w4 ⟨rfl, rfl⟩
                  go_wp2_with fail
                  go_round
                  case measure => simp [intOf]; omega
                  case rel => exact ⟨1, by omega, by go_num, hN⟩
                · obtain ⟨adq, ea, hq⟩ := hS3.out.rp.at_ (k - 1) (by omega)
                  cases ea
                  have hk1 : 0 < k := by omega
                  have hk00 : ((k : Int) == 0) = false := beq_eq_false_iff_ne.2 (by omega)
                  by_cases hlt : pal.getD (k - 1) 0 < pal.getD k 0
                  · have hN : Hid (∀ i, i < k + 1 → pal.getD i 0 ≤ 16 ∧ (i = 0 ∨ pal.getD (i - 1) 0 < pal.getD i 0)) := fun i hi => by
                      by_cases hik : i < k
                      · exact hA.out i hik
                      · obtain rfl : i = k := by omega
                        exact ⟨h16, .inr hlt⟩
                    generalize pal.getD k 0 = p at *
                    generalize pal.getD (k - 1) 0 = q at *
                    go_wp2_with fail
                    refine (must_ok _ _).mono ?_
                    rintro e w4 ⟨rfl, rfl⟩
                    go_wp2_with fail
                    go_round
                    case measure => simp [intOf]; omega
                    case rel => exact ⟨k + 1, by omega, by go_num, hN⟩
                  · have hE : Hid (r = .error 4) := HG.out fun hpal => by
                      rcases (hpal k (by have := hpl.out; omega)).2 with h | h
                      · omega
                      · exact hlt h
                    generalize pal.getD k 0 = p at *
                    generalize pal.getD (k - 1) 0 = q at *
                    have hd : decide (q < p) = false := decide_eq_false hlt
                    go_wp2_with fail
                    refine (must_no _ _).mono ?_
                    rintro e w4 ⟨rfl, rfl⟩
                    exact ⟨rfl, ReadPost.error hE.out hbw⟩
              · have hE : Hid (r = .error 4) := HG.out fun hpal => h16 (hpal k (by have := hpl.out; omega)).1
                generalize pal.getD k 0 = p at *
                have hd : decide (p ≤ 16) = false := decide_eq_false h16
                go_wp2_with fail
                refine (must_no _ _).mono ?_
                rintro e w4 ⟨rfl, rfl⟩
                exact ⟨rfl, ReadPost.error hE.out hbw⟩
            · have hkn' : k = nn := by omega
              have HE := Lib.hid (HG2.out fun i hi => hA.out i (by have := hpl.out; omega))
              clear HG HG2 hA
              have d1 := hS3.out.rd.c1
              go_wp2_with fail
              first
                | (go_at_call 40
                   refine (runs_any hS3.out HB2.out).mono ?_
                   intro e w4 hrd
                   rcases hrr : runsD 32768 rest pal [] with c | ⟨b', out'⟩
                   · rw [hrr] at hrd
                     obtain ⟨rfl, hb4⟩ := hrd
                     exact ⟨rfl, ReadPost.error (HE.out.trans (formD_1e hrr)) (hbw.trans hb4)⟩
                   · rw [hrr] at hrd
                     obtain ⟨rfl, ⟨vb', vo', hS4⟩, hb4⟩ := hrd
                     have HS4 := Lib.hid hS4
                     clear hS4
                     have d0 := HS4.out.rd.c0
                     obtain ⟨A5, c5, e5, hrb⟩ := HS4.out.rb
                     subst e5
                     clear hrb
                     by_cases hz : b'.length = 0
                     · have hz0 : ((b'.length : Int) == 0) = true := beq_iff_eq.2 (by omega)
                       have hE := Lib.hid (HE.out.trans (formD_1o hrr hz))
                       clear hz
                       go_wp2_with fail
                       refine (must_ok _ _).mono ?_
                       rintro e w5 ⟨rfl, rfl⟩
                       go_wp2_with fail
                       go_end0
                       exact ReadPost.ok hE.out HS4.out.rd (hbw.trans hb4)
                     · have hz0 : ((b'.length : Int) == 0) = false := beq_eq_false_iff_ne.2 (by omega)
                       have hE := Lib.hid (HE.out.trans (formD_1l hrr hz))
                       clear hz
                       go_wp2_with fail
                       refine (must_no _ _).mono ?_
                       rintro e w5 ⟨rfl, rfl⟩
                       exact ⟨rfl, ReadPost.error hE.out (hbw.trans hb4)⟩)
                | (go_at_call 25
                   refine (width_any nn (by omega) _).mono ?_
                   rintro e w4 ⟨rfl, rfl⟩
                   go_wp2_with fail
                   refine (bits_any hS3.out HB2.out (widthN nn) (widthN_cases nn)).mono ?_
                   intro e w4 hrd
                   rw [show widthN nn = widthN pal.length by rw [hpl.out]] at hrd
                   rcases hrr : bitsR (widthN pal.length) rest pal with c | ⟨b', out'⟩
                   · rw [hrr] at hrd
                     obtain ⟨rfl, hb4⟩ := hrd
                     exact ⟨rfl, ReadPost.error (HE.out.trans (formD_2e hrr)) (hbw.trans hb4)⟩
                   · rw [hrr] at hrd
                     obtain ⟨rfl, ⟨vb', vo', hS4⟩, hb4⟩ := hrd
                     have HS4 := Lib.hid hS4
                     clear hS4
                     have d0 := HS4.out.rd.c0
                     obtain ⟨A5, c5, e5, hrb⟩ := HS4.out.rb
                     subst e5
                     clear hrb
                     by_cases hz : b'.length = 0
                     · have hz0 : ((b'.length : Int) == 0) = true := beq_iff_eq.2 (by omega)
                       have hE := Lib.hid (HE.out.trans ((formD_2o hrr).trans (if_pos hz)))
                       clear hz
                       go_wp2_with fail
                       refine (must_ok _ _).mono ?_
                       rintro e w5 ⟨rfl, rfl⟩
                       go_wp2_with fail
                       go_end0
                       exact ReadPost.ok hE.out HS4.out.rd (hbw.trans hb4)
                     · have hz0 : ((b'.length : Int) == 0) = false := beq_eq_false_iff_ne.2 (by omega)
                       have hE := Lib.hid (HE.out.trans ((formD_2o hrr).trans (if_neg hz)))
                       clear hz
                       go_wp2_with fail
                       refine (must_no _ _).mono ?_
                       rintro e w5 ⟨rfl, rfl⟩
                       exact ⟨rfl, ReadPost.error hE.out (hbw.trans hb4)⟩)
    · have hE : Hid (r = .error 4) := HR.out.symm.trans (dec_form h2 hc)
      have hcs : (b.getD 0 0 = 1 ∧ b.getD 1 0 < 1) ∨ (b.getD 0 0 = 1 ∧ 1 ≤ b.getD 1 0 ∧ 17 < b.getD 1 0) ∨ (b.getD 0 0 = 2 ∧ b.getD 1 0 < 1) ∨ (b.getD 0 0 = 2 ∧ 1 ≤ b.getD 1 0 ∧ 17 < b.getD 1 0) ∨ (b.getD 0 0 ≠ 1 ∧ b.getD 0 0 ≠ 2) := by omega
      clear hc HR
      go_enter Try.func31, Try.ntmps31
      go_wp2_with fail
      refine (rtake_ok H.out 2 (by omega) (by omega)).mono ?_
      rintro e w1 ⟨A1, c1, vb1, rfl, hT, hL, hS, hb1⟩
      rw [show (2 : Int).toNat = 2 from rfl] at *
      obtain ⟨ad, ea, hx0⟩ := hT.out.at_ 0 (by omega)
      cases ea
      obtain ⟨ad', ea, hx1⟩ := hT.out.at_ 1 (by omega)
      cases ea
      rw [take2_0, show ad.add 0 = ad from rfl] at hx0
      rw [take2_1] at hx1
      replace hx1 : w1.cell? { block := ad.block, off := ad.off + 1 } = some (.int .u8 (b.getD 1 0)) := hx1
      clear hT hL
      generalize b.getD 0 0 = f at *
      generalize b.getD 1 0 = n at *
      rcases hcs with ⟨rfl, h3⟩ | ⟨rfl, h3, h4⟩ | ⟨rfl, h3⟩ | ⟨rfl, h3, h4⟩ | ⟨h3, h4⟩
      · have hd : decide (1 ≤ n) = false := decide_eq_false (by omega)
        go_wp2_with fail
        refine (must_no _ _).mono ?_
        rintro e w2 ⟨rfl, rfl⟩
        exact ⟨rfl, ReadPost.error hE.out hb1⟩
      · have hd : decide (n ≤ 17) = false := decide_eq_false (by omega)
        go_wp2_with fail
        refine (must_no _ _).mono ?_
        rintro e w2 ⟨rfl, rfl⟩
        exact ⟨rfl, ReadPost.error hE.out hb1⟩
      · have hd : decide (1 ≤ n) = false := decide_eq_false (by omega)
        go_wp2_with fail
        refine (must_no _ _).mono ?_
        rintro e w2 ⟨rfl, rfl⟩
        exact ⟨rfl, ReadPost.error hE.out hb1⟩
      · have hd : decide (n ≤ 17) = false := decide_eq_false (by omega)
        go_wp2_with fail
        refine (must_no _ _).mono ?_
        rintro e w2 ⟨rfl, rfl⟩
        exact ⟨rfl, ReadPost.error hE.out hb1⟩
      · have hd1 : (f == 1) = false := beq_eq_false_iff_ne.2 h3
        have hd2 : (f == 2) = false := beq_eq_false_iff_ne.2 h4
        go_wp2_with fail
        refine (must_no _ _).mono ?_
        rintro e w2 ⟨rfl, rfl⟩
        exact ⟨rfl, ReadPost.error hE.out hb1⟩
end Go.Proofs.Ytpakcmcoafbgkaa.Cx
