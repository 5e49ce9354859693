/- The reference's Decode: just what 'dec' tells. -/
import Derived.Test.YtpakcmcoafbgkaaDn
import Derived.Test.YtpakcmcoafbgkaaCh
namespace Go.Proofs.Ytpakcmcoafbgkaa.Cx
open Go.RowKit
theorem RDec.of_drewN {r : Except Int (List Int)} {w w' : World} {e : Ending} {d : Nat} (h : RDec r (w.drewN d) e w') : RDec r w e w' := by
  have hb := Drw.below (w := w) (w' := w.drewN d) ⟨d, rfl⟩ w.heap.size
  rcases r with c | out
  · exact ⟨h.1, hb.trans h.2⟩
  · obtain ⟨v, e, hO, hB⟩ := h
    exact ⟨v, e, hO, hb.trans hB⟩
set_option maxHeartbeats 3200000 in
set_option maxRecDepth 100000 in
theorem rdecode_any (v : Value) (b : List Int) (w : World) (h : RI .u8 w v b) (hb : Bytes b) : Calls Try.prog 16 #[v] w (RDec (dec b) w) := by
  obtain ⟨A, n, c, rfl⟩ : ∃ A n c, v = .slice A n c := by
    obtain ⟨A, c, e, _⟩ := h
    exact ⟨A, _, c, e⟩
  have HN := Lib.hid h.len
  have hlc := h.lc
  generalize hr : dec b = r
  have HR := Lib.hid hr
  clear hr
  by_cases h2 : (n : Int) < 2
  · have hE : Hid (r = .error 3) := HR.out.symm.trans (dec_short (by have := HN.out; omega))
    go_enter Try.func16, Try.ntmps16
    go_wp2_with fail
    go_ret2
    exact RDec.error hE.out (Below.refl _ _)
  · have hl2 : ¬ b.length < 2 := by have := HN.out; omega
    obtain ⟨ad, ea, hx0⟩ := h.at_ 0 (by omega)
    cases ea
    obtain ⟨_, ea, hx1⟩ := h.at_ 1 (by omega)
    cases ea
    rw [show ad.add 0 = ad from rfl] at hx0
    replace hx1 : w.cell? { block := ad.block, off := ad.off + 1 } = some (.int .u8 (b.getD 1 0)) := hx1
    obtain ⟨f0, f1⟩ := hb.at_ 0
    obtain ⟨n0, n1⟩ := hb.at_ 1
    have H := Lib.hid h
    have HB := Lib.hid hb
    have HL2 := Lib.hid hl2
    have hcc : ¬ c = 2 ∨ c = 2 := by omega
    clear h hb hl2 hcc
    obtain ⟨m, hm⟩ := Int.eq_ofNat_of_zero_le n0
    rw [hm] at hx1 n1
    by_cases hc : (b.getD 0 0 = 1 ∨ b.getD 0 0 = 2) ∧ 1 ≤ b.getD 1 0 ∧ b.getD 1 0 ≤ 17
    · obtain ⟨hf, hm1, hm17⟩ := hc
      rw [hm] at hm1 hm17
      by_cases hs : (n : Int) < 2 + m
      · have hE : Hid (r = .error 3) := HR.out.symm.trans (dec_short2 HL2.out ⟨hf, by rw [hm]; exact hm1, by rw [hm]; exact hm17⟩ (by rw [hm]; have := HN.out; omega))
        have hd : decide (2 + (m : Int) ≤ n) = false := decide_eq_false (by omega)
        clear hm n0
        generalize b.getD 0 0 = f at *
        rcases hf with rfl | rfl
        all_goals
          go_enter Try.func16, Try.ntmps16
          go_wp2_with fail
          go_ret2
          exact RDec.error hE.out (Below.refl _ _)
      · have hcD : (b.getD 0 0 = 1 ∨ b.getD 0 0 = 2) ∧ 1 ≤ b.getD 1 0 ∧ b.getD 1 0 ≤ 17 := ⟨hf, by rw [hm]; exact hm1, by rw [hm]; exact hm17⟩
        have HG : Hid (¬ PalOk ((b.drop 2).take m) → r = .error 4) := fun hp => HR.out.symm.trans (dec_pal HL2.out hcD (by rw [hm]; have := HN.out; omega) (by rw [hm]; exact hp))
        have HG2 : Hid (PalOk ((b.drop 2).take m) → r = formD (b.getD 0 0) (b.drop (2 + m)) ((b.drop 2).take m)) := fun hp => by
          have h := HR.out.symm.trans (dec_go HL2.out hcD (by rw [hm]; have := HN.out; omega) (by rw [hm]; exact hp))
          rw [hm] at h; exact h
        have hc2 : ¬ c = 2 := by omega
        have HP : Hid (RI .u8 w (.slice (some (ad.add 2)) m (c - 2)) ((b.drop 2).take m)) := by
          have h := (H.out.drop 2 (by omega)).take m (by omega)
          have hcu : cutA (some ad) c 2 = some (ad.add 2) := by unfold cutA; rw [if_neg hc2]; rfl
          rw [hcu] at h; exact h
        have HRs := Lib.hid (H.out.drop (2 + m) (by omega))
        have HRB : Hid (Bytes (b.drop (2 + m))) := HB.out.drop _
        have HPB : Hid (Bytes ((b.drop 2).take m)) := (HB.out.drop 2).take m
        have hm17' : m ≤ 17 := by omega
        clear hcD hm n0 HR
        generalize b.getD 0 0 = f at *
        generalize (b.drop 2).take m = pal at *
        generalize b.drop (2 + m) = rest at *
        have HPL := Lib.hid HP.out.len
        rcases hf with rfl | rfl
        all_goals
          go_enter Try.func16, Try.ntmps16
          go_wp2_with fail
          obtain ⟨ap, hap⟩ : ∃ ap : Addr, ap = { block := ad.block, off := ad.off + 2 } := ⟨_, rfl⟩
          rw [← hap]
          have HP2 : Hid (RI .u8 w (.slice (some ap) m (c - 2)) pal) := by rw [hap]; exact HP
          clear hap HP
          obtain ⟨cp, hcp⟩ : ∃ cp, cp = c - 2 := ⟨_, rfl⟩
          rw [← hcp] at HP2 ⊢
          clear hcp
          go_loopg [6] m (fun g i wr => ∃ k dr : Nat, i = .int .i64 k ∧ k ≤ m ∧ Hid (k + g = m) ∧ Hid (∀ i, i < k → pal.getD i 0 ≤ 16 ∧ (i = 0 ∨ pal.getD (i - 1) 0 < pal.getD i 0)) ∧ wr = w.drewN dr)
          case atStart => exact ⟨0, 0, rfl, by omega, by show _ = _; omega, fun i hi => absurd hi (by omega), rfl⟩
          case round =>
            obtain ⟨k, dr, rfl, hk, hg, hA, rfl⟩ := hrel
            by_cases hkm : (k : Int) < m
            · obtain ⟨_, ea, hp⟩ := HP2.out.at_ k (by omega)
              cases ea
              obtain ⟨p0, p1⟩ := HPB.out.at_ k
              by_cases h16 : pal.getD k 0 ≤ 16
              · rcases Nat.eq_zero_or_pos k with hk0 | hk0
                · subst hk0
                  have hA' : Hid (∀ i, i < 0 + 1 → pal.getD i 0 ≤ 16 ∧ (i = 0 ∨ pal.getD (i - 1) 0 < pal.getD i 0)) := fun i hi => by
                    obtain rfl : i = 0 := by omega
                    exact ⟨h16, .inl rfl⟩
                  have hd16 : decide ((16 : Int) < pal.getD 0 0) = false := decide_eq_false (by omega)
                  rw [show ap.add 0 = ap from rfl] at hp
                  clear hA h16
                  generalize pal.getD 0 0 = y at *
                  go_wp2_with fail
                  go_quiet (fail)
                  go_wp2
                  go_roundg (m - 1)
                  case measure => have := hg.out; omega
                  case rel => exact ⟨1, _, by go_num, by omega, by show _ = _; omega, hA', rfl⟩
                · obtain ⟨_, ea, hq⟩ := HP2.out.at_ (k - 1) (by omega)
                  cases ea
                  obtain ⟨q0, q1⟩ := HPB.out.at_ (k - 1)
                  have hd16 : decide ((16 : Int) < pal.getD k 0) = false := decide_eq_false (by omega)
                  have hk1 : (1 : Int) ≤ k := by omega
                  have hk1d : decide ((0 : Int) < k) = true := decide_eq_true (by omega)
                  by_cases hlt : pal.getD (k - 1) 0 < pal.getD k 0
                  · have hA' : Hid (∀ i, i < k + 1 → pal.getD i 0 ≤ 16 ∧ (i = 0 ∨ pal.getD (i - 1) 0 < pal.getD i 0)) := fun i hi => by
                      by_cases hik : i < k
                      · exact hA.out i hik
                      · obtain rfl : i = k := by omega
                        exact ⟨h16, .inr hlt⟩
                    have hdl : decide (pal.getD k 0 ≤ pal.getD (k - 1) 0) = false := decide_eq_false (by omega)
                    clear hA h16 hlt
                    generalize pal.getD k 0 = y at *
                    generalize pal.getD (k - 1) 0 = z at *
                    go_wp2_with fail
                    go_quiet (fail)
                    go_wp2
                    go_roundg (m - (k + 1))
                    case measure => have := hg.out; omega
                    case rel => exact ⟨k + 1, _, by go_num, by omega, by show _ = _; omega, hA', rfl⟩
                  · have hE : Hid (r = .error 4) := HG.out fun hpo => by
                      have := (hpo k (by have := HPL.out; omega)).2
                      omega
                    have hdl : decide (pal.getD k 0 ≤ pal.getD (k - 1) 0) = true := decide_eq_true (by omega)
                    clear hA h16 hlt
                    generalize pal.getD k 0 = y at *
                    generalize pal.getD (k - 1) 0 = z at *
                    go_wp2_with fail
                    go_quiet (fail)
                    go_wp2
                    go_ret2
                    exact RDec.error hE.out (Drw.below ⟨_, World.drewN_drewN ..⟩ _)
              · have hE : Hid (r = .error 4) := HG.out fun hpo => h16 (hpo k (by have := HPL.out; omega)).1
                have hd16 : decide ((16 : Int) < pal.getD k 0) = true := decide_eq_true (by omega)
                clear hA h16
                generalize pal.getD k 0 = y at *
                go_wp2_with fail
                go_quiet (fail)
                go_wp2
                go_ret2
                exact RDec.error hE.out (Drw.below ⟨_, World.drewN_drewN ..⟩ _)
            · have hgo : Hid (r = formD _ rest pal) := HG2.out fun i hi => hA.out i (by have := HPL.out; omega)
              have hx0d : (w.drewN dr).cell? ad = some _ := hx0
              have hHR := HRs.out.drewN dr
              have hHP := HP2.out.drewN dr
              generalize hwd : w.drewN dr = wd at *
              by_cases hcm : c = 2 + m
              · have hcu : cutA (some ad) c (2 + m) = some ad := by unfold cutA; rw [if_pos hcm]
                have hc0 : c - (2 + m) = 0 := by omega
                rw [hcu, hc0] at hHR
                have HHR := Lib.hid hHR
                have HHP := Lib.hid hHP
                clear hcu hc0 hHR hHP HRs
                go_wp2_with fail
                first
                  | refine (rruns_any _ _ rest pal wd HHR.out HHP.out HRB.out (by have := HPL.out; omega)).mono ?_
                  | refine (packed_any _ _ rest pal wd HHR.out HHP.out HRB.out (by have := HPL.out; omega)).mono ?_
                intro e w' hrd
                rw [← hgo.out, ← hwd] at hrd
                replace hrd := hrd.of_drewN
                clear hgo HG HG2
                rcases r with ec | out
                · obtain ⟨rfl, hB⟩ := hrd
                  go_wp2_with fail
                  go_ret2
                  exact RDec.error rfl hB
                · obtain ⟨v', rfl, hO, hB⟩ := hrd
                  go_wp2_with fail
                  go_ret2
                  exact RDec.ok rfl hO hB
              · have hcu : cutA (some ad) c (2 + m) = some (ad.add (2 + m)) := by unfold cutA; rw [if_neg hcm]; rfl
                rw [hcu] at hHR
                have HHR := Lib.hid hHR
                have HHP := Lib.hid hHP
                clear hcu hHR hHP HRs
                go_wp2_with fail
                first
                  | refine (rruns_any _ _ rest pal wd HHR.out HHP.out HRB.out (by have := HPL.out; omega)).mono ?_
                  | refine (packed_any _ _ rest pal wd HHR.out HHP.out HRB.out (by have := HPL.out; omega)).mono ?_
                intro e w' hrd
                rw [← hgo.out, ← hwd] at hrd
                replace hrd := hrd.of_drewN
                clear hgo HG HG2
                rcases r with ec | out
                · obtain ⟨rfl, hB⟩ := hrd
                  go_wp2_with fail
                  go_ret2
                  exact RDec.error rfl hB
                · obtain ⟨v', rfl, hO, hB⟩ := hrd
                  go_wp2_with fail
                  go_ret2
                  exact RDec.ok rfl hO hB
    · have hE : Hid (r = .error 4) := HR.out.symm.trans (dec_form HL2.out hc)
      rw [hm] at hc
      clear hm n0 HR
      generalize b.getD 0 0 = f at *
      by_cases hf1 : f = 1
      · subst hf1
        by_cases hm0 : (m : Int) < 1
        · go_enter Try.func16, Try.ntmps16
          go_wp2_with fail
          go_ret2
          exact RDec.error hE.out (Below.refl _ _)
        · have hm2 : (17 : Int) < m := by omega
          clear hc
          go_enter Try.func16, Try.ntmps16
          go_wp2_with fail
          go_ret2
          exact RDec.error hE.out (Below.refl _ _)
      · have hb1 : (f != 1) = true := bne_iff_ne.2 hf1
        by_cases hf2 : f = 2
        · subst hf2
          by_cases hm0 : (m : Int) < 1
          · clear hc hf1
            go_enter Try.func16, Try.ntmps16
            go_wp2_with fail
            go_ret2
            exact RDec.error hE.out (Below.refl _ _)
          · have hm2 : (17 : Int) < m := by omega
            clear hc hf1
            go_enter Try.func16, Try.ntmps16
            go_wp2_with fail
            go_ret2
            exact RDec.error hE.out (Below.refl _ _)
        · have hb2 : (f != 2) = true := bne_iff_ne.2 hf2
          clear hc hf1 hf2
          go_enter Try.func16, Try.ntmps16
          go_wp2_with fail
          go_ret2
          exact RDec.error hE.out (Below.refl _ _)
end Go.Proofs.Ytpakcmcoafbgkaa.Cx
