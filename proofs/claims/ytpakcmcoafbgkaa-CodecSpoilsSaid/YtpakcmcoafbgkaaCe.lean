/- The reader reads form 1: just what 'runsD' tells. -/
import Derived.Test.YtpakcmcoafbgkaaCd
namespace Go.Proofs.Ytpakcmcoafbgkaa.Cx
open Go.RowKit
set_option maxHeartbeats 1600000 in
set_option maxRecDepth 100000 in
theorem runs_any {w : World} {B br : Nat} {vb vp vo : Value} {b pal : List Int} (h : RS w B br vb vp vo b pal []) (hb : Bytes b) :
    Calls Try.prog 40 #[.pointer (some ⟨br,0,none⟩)] w (Reads (runsD 32768 b pal []) w B br vp pal) := by
  have H := Lib.hid h; clear h
  generalize hr : runsD 32768 b pal [] = r
  have HR := Lib.hid hr; clear hr
  go_enter Try.func40, Try.ntmps40
  go_wp2_with fail
  go_loopg [] 32768 (fun f wr => ∃ vb' vo' b' out', Hid (RS wr B br vb' vp vo' b' pal out') ∧ Hid (Bytes b') ∧ (32768 : Int) ≤ out'.length + f ∧ (out'.length : Int) ≤ 32768 ∧ Hid (r = runsD f b' pal out') ∧ Below B w wr)
  case atStart => exact ⟨vb, vo, b, [], H, hb, by simp, by simp, HR.out.symm, Below.refl _ _⟩
  case round =>
    obtain ⟨vb', vo', b', out', hS, hB, hf, hle, hR, hbel⟩ := hrel
    have c2 := hS.out.rd.c2
    have c0 := hS.out.rd.c0
    obtain ⟨Ao, co, eo⟩ := hS.out.rd.own.slice
    obtain ⟨Ab, cb, eb, hrb⟩ := hS.out.rb
    clear hrb
    subst eo eb
    by_cases hlt : (out'.length : Int) < 32768
    · obtain ⟨g, rfl⟩ : ∃ g, gk = g + 1 := ⟨gk - 1, by omega⟩
      by_cases hb0 : b'.length = 0
      · have hr : r = .error 3 := by rw [hR.out]; unfold runsD; rw [if_pos (by omega), if_pos hb0]
        have hd : ¬ (0 < b'.length) := by omega
        have HRr := Lib.hid hr; clear hr
        go_wp2_with fail
        refine (must_no _ _).mono ?_
        rintro e w1 ⟨rfl, rfl⟩
        exact ⟨rfl, Reads.error HRr.out hbel⟩
      · have hd : 0 < b'.length := by omega
        go_wp2_with fail
        refine (must_ok _ _).mono ?_
        rintro e w1 ⟨rfl, rfl⟩
        go_wp2_with fail
        refine (get_any _ b' _ hS.out.rb hB.out).mono ?_
        rintro e w1 ⟨rfl, rfl⟩
        have hrg2 : (getN b').1 = 0 ∨ (0 ≤ (getN b').1 ∧ 1 ≤ (getN b').2 ∧ (getN b').2 ≤ b'.length) := by
          rcases getN_range b' hB.out with hrg | hrg
          · exact .inl (by rw [hrg])
          · exact .inr (by omega)
        have HN : Hid (runsD (g + 1) b' pal out' = if 0 < (getN b').1 ∧ (getN b').1 ≤ 32768 - (out'.length : Int) then
            (if (b'.drop (getN b').2.toNat).length = 0 then .error 3
            else if (b'.drop (getN b').2.toNat).getD 0 0 < (pal.length : Int) then
              runsD g ((b'.drop (getN b').2.toNat).drop 1) pal (out' ++ List.replicate (getN b').1.toNat (pal.getD ((b'.drop (getN b').2.toNat).getD 0 0).toNat 0))
            else .error 4)
          else .error 4) := by unfold Hid; conv => lhs; unfold runsD
                               rw [if_pos (by omega), if_neg hb0]
        generalize (getN b').1 = n at *
        generalize (getN b').2 = m at *
        by_cases hn : 0 < n ∧ n ≤ 32768 - (out'.length : Int)
        · obtain ⟨hn1, hn2⟩ := hn
          go_wp2_with fail
          refine (must_ok _ _).mono ?_
          rintro e w1 ⟨rfl, rfl⟩
          go_wp2_with fail
          refine (rtake_ok hS.out m (by omega) (by omega)).mono ?_
          rintro e w1 ⟨A1, c1, vb1, rfl, hT1, hL1, hS1, hb1⟩
          clear hT1 hL1 c2 c0
          generalize hd1 : b'.drop m.toNat = b1 at *
          have hB1 : Hid (Bytes b1) := by rw [← hd1]; exact hB.out.drop _
          have hlen1 : b1.length ≤ b'.length := by rw [← hd1, List.length_drop]; omega
          have hm' : b'.length = b1.length + m.toNat := by rw [← hd1, List.length_drop]; omega
          clear hd1
          by_cases hz : b1.length = 0
          · have hE : Hid (r = .error 3) := by rw [hR.out, HN.out, if_pos ⟨hn1, hn2⟩, if_pos hz]; exact rfl
            go_wp2_with fail
            refine (rtake_no hS1.out 1 (by omega) (by omega)).mono ?_
            rintro e w2 ⟨rfl, rfl⟩
            exact ⟨rfl, Reads.error hE.out (hbel.trans hb1)⟩
          · go_wp2_with fail
            refine (rtake_ok hS1.out 1 (by omega) (by omega)).mono ?_
            rintro e w2 ⟨A2, c2, vb2, rfl, hT2, hL2, hS2, hb2⟩
            rw [show (1 : Int).toNat = 1 from rfl] at *
            obtain ⟨ad, ea, hx⟩ := hT2.out.at_ 0 (by omega)
            cases ea
            have hx0 : w2.cell? ad = some (.int .u8 (b1.getD 0 0)) := by
              have e0 : ad.add 0 = ad := rfl
              have e1 : (b1.take 1).getD 0 0 = b1.getD 0 0 := by rw [List.getD_eq_getElem?_getD, List.getD_eq_getElem?_getD, List.getElem?_take, if_pos (by omega)]
              rw [e0, e1] at hx; exact hx
            obtain ⟨p0, p1⟩ := hB1.out.at_ 0
            clear hx hT2 hL2
            have HB2 : Hid (Bytes (b1.drop 1)) := hB1.out.drop 1
            generalize b1.getD 0 0 = p at *
            by_cases hp : p < pal.length
            · go_wp2_with fail
              refine (rputs_ok hS2.out p n p0 p1 hp (by omega) (by omega)).mono ?_
              rintro e w3 ⟨rfl, ⟨vo3, hS3⟩, hb3⟩
              go_wp2_with fail
              go_roundg g
              case measure => omega
              case rel =>
                refine ⟨vb2, vo3, b1.drop 1, out' ++ List.replicate n.toNat (pal.getD p.toNat 0), hS3, HB2, ?_, ?_, ?_, ((hbel.trans hb1).trans hb2).trans hb3⟩
                · rw [List.length_append, List.length_replicate]; omega
                · rw [List.length_append, List.length_replicate]; omega
                · rw [hR.out, HN.out, if_pos ⟨hn1, hn2⟩, if_neg hz, if_pos hp]; exact rfl
            · have hE : Hid (r = .error 4) := by rw [hR.out, HN.out, if_pos ⟨hn1, hn2⟩, if_neg hz, if_neg hp]; exact rfl
              go_wp2_with fail
              refine (rputs_no hS2.out p n p0 p1 (by omega)).mono ?_
              rintro e w3 ⟨rfl, rfl⟩
              exact ⟨rfl, Reads.error hE.out ((hbel.trans hb1).trans hb2)⟩
        · have hE : Hid (r = .error 4) := by rw [hR.out, HN.out, if_neg hn]; exact rfl
          clear HN
          by_cases hn1 : 0 < n
          · have hd : decide (n ≤ 32768 - (out'.length : Int)) = false := decide_eq_false (by omega)
            go_wp2_with fail
            refine (must_no _ _).mono ?_
            rintro e w1 ⟨rfl, rfl⟩
            exact ⟨rfl, Reads.error hE.out hbel⟩
          · obtain rfl : n = 0 := by omega
            clear hn hrg2 hf hn1 hR
            go_wp2_with fail
            refine (must_no _ _).mono ?_
            rintro e w1 ⟨rfl, rfl⟩
            exact ⟨rfl, Reads.error hE.out hbel⟩
    · have hE : Hid (r = .ok (b', out')) := by rw [hR.out, runsD_stop _ _ _ _ (by omega)]; exact rfl
      go_wp2_with fail
      go_end0
      exact Reads.ok hE.out hS.out hbel
end Go.Proofs.Ytpakcmcoafbgkaa.Cx
