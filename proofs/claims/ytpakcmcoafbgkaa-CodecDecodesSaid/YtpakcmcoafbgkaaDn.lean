/- The reference's decoding of form 1: just what 'formD' tells. -/
import Derived.Test.YtpakcmcoafbgkaaDm
import Derived.IntWalk
namespace Go.Proofs.Ytpakcmcoafbgkaa.Cx
open Go.RowKit
def fin1 : Except Int (List Int × List Int) → Except Int (List Int)
  | .error c => .error c
  | .ok (r', out) => if r'.length = 0 then .ok out else .error 2
theorem fin1_ok (r' out : List Int) (h : r'.length = 0) : fin1 (.ok (r', out)) = .ok out := if_pos h
theorem fin1_long (r' out : List Int) (h : ¬ r'.length = 0) : fin1 (.ok (r', out)) = .error 2 := if_neg h
theorem formD_one (b pal : List Int) : formD 1 b pal = fin1 (runsD 32768 b pal []) := by
  unfold formD
  rw [if_pos rfl]
  generalize runsD 32768 b pal [] = R
  rcases R with c | ⟨r', out⟩ <;> rfl
theorem runsD_short (f : Nat) (b pal out : List Int) (h : out.length < 32768) (h0 : b.length = 0) : runsD (f + 1) b pal out = .error 3 := by
  unfold runsD; rw [if_pos h, if_pos h0]
theorem runsD_bad (f : Nat) (b pal out : List Int) (h : out.length < 32768) (h0 : ¬ b.length = 0) (h1 : ¬ (0 < (getN b).1 ∧ (getN b).1 ≤ 32768 - (out.length : Int))) : runsD (f + 1) b pal out = .error 4 := by
  unfold runsD; rw [if_pos h, if_neg h0, if_neg h1]
theorem runsD_go (f : Nat) (b pal out : List Int) (h : out.length < 32768) (h0 : ¬ b.length = 0) (h1 : 0 < (getN b).1 ∧ (getN b).1 ≤ 32768 - (out.length : Int)) : runsD (f + 1) b pal out =
    if (b.drop (getN b).2.toNat).length = 0 then .error 3 else if (b.drop (getN b).2.toNat).getD 0 0 < (pal.length : Int) then
      runsD f ((b.drop (getN b).2.toNat).drop 1) pal (out ++ List.replicate (getN b).1.toNat (pal.getD ((b.drop (getN b).2.toNat).getD 0 0).toNat 0)) else .error 4 := by
  rw [runsD, if_pos h, if_neg h0, if_pos h1]
set_option maxHeartbeats 3200000 in
set_option maxRecDepth 100000 in
theorem rruns_any (v vl : Value) (b pal : List Int) (w : World) (h : RI .u8 w v b) (hl : RI .u8 w vl pal) (hb : Bytes b) (hp : pal.length ≤ 17) : Calls Try.prog 32 #[v, vl] w (RDec (formD 1 b pal) w) := by
  obtain ⟨A, n, c, rfl⟩ : ∃ A n c, v = .slice A n c := by
    obtain ⟨A, c, e, _⟩ := h
    exact ⟨A, _, c, e⟩
  obtain ⟨A3, n3, c3, rfl⟩ : ∃ A n c, vl = .slice A n c := by
    obtain ⟨A, c, e, _⟩ := hl
    exact ⟨A, _, c, e⟩
  have HN3 := Lib.hid hl.len
  have hn3 : n3 ≤ 17 := by have := HN3.out; omega
  have H := Lib.hid h
  have HL := Lib.hid hl
  have HBy := Lib.hid hb
  obtain ⟨N, hN⟩ : ∃ N : Nat, 32768 = N := ⟨_, rfl⟩
  obtain ⟨R0, hR0⟩ : ∃ R0, R0 = runsD N b pal [] := ⟨_, rfl⟩
  have hNi : Hid ((N : Int) = 32768) := by show _ = _; omega
  have HF : Hid (formD 1 b pal = fin1 R0) := by show _ = _; rw [formD_one, hN, hR0]
  generalize hr : formD 1 b pal = r at *
  have HR0 := Lib.hid hR0
  clear h hl hb hp hr hN hR0
  go_enter Try.func32, Try.ntmps32
  go_wp2_with fail
  go_loopg [0, 6] N (fun g sv o wr => ∃ (f : Nat) (A' : Option Addr) (n' c' : Nat) (rest out : List Int), sv = .slice A' n' c' ∧ Hid (RI .u8 w (.slice A' n' c') rest) ∧ Hid (Own .u8 5 wr w.heap.size o out) ∧ Hid (R0 = runsD f rest pal out) ∧ Hid (Bytes rest) ∧ Hid (out.length + g = N) ∧ Hid (N ≤ out.length + f) ∧ Hid (Below w.heap.size w wr))
  case atStart => exact ⟨N, A, n, c, b, [], rfl, H, Own.nil _ _ _ _, HR0, HBy, by show _ = _; simp, by show _ ≤ _; simp, Below.refl _ _⟩
  case round =>
    obtain ⟨f, A', n', c', rest, out, rfl, hR, hO, hE, hby, hg, hf, hB⟩ := hrel
    obtain ⟨wo, hwo⟩ : ∃ wo, wo = wr := ⟨_, rfl⟩
    rw [← hwo] at hO hB ⊢
    clear hwo
    obtain ⟨A6, n6, c6, rfl⟩ := hO.out.val
    have HN6 := Lib.hid hO.out.len
    have HN' := Lib.hid hR.out.len
    have hlc := hR.out.lc
    by_cases hlt : (n6 : Int) < 32768
    · obtain ⟨f, rfl⟩ : ∃ f', f = f' + 1 := ⟨f - 1, by have := hf.out; have := HN6.out; have := hNi.out; omega⟩
      have hol : Hid (out.length < 32768) := by have := HN6.out; show _ < _; omega
      by_cases h0 : n' = 0
      · have hE2 : Hid (r = .error 3) := by
          show _ = _
          rw [HF.out, hE.out, runsD_short f rest pal out hol.out (by rw [HN'.out]; exact h0)]; rfl
        subst h0
        go_wp2_with fail
        go_ret2
        exact RDec.error hE2.out hB.out
      · have hb0 : ((n' : Int) == 0) = false := beq_eq_false_iff_ne.2 (by omega)
        have hnp : 0 < n' := by omega
        clear h0
        go_wp2_with fail
        refine (rget_any _ rest wo (hR.out.below hB.out) hby.out).mono ?_
        rintro e w1 ⟨rfl, rfl⟩
        have hrg := Lib.hid (getN_range rest hby.out)
        by_cases hok : 0 < (getN rest).1 ∧ (getN rest).1 ≤ 32768 - (n6 : Int)
        · have hnz : getN rest ≠ (0, 0) := fun e => by rw [e] at hok; exact absurd hok.1 (by decide)
          obtain ⟨r0, r1, r2, r3, r4⟩ := hrg.out.resolve_left hnz
          have hgo := Lib.hid (runsD_go f rest pal out hol.out (by rw [HN'.out]; omega) (by rw [← HN6.out]; exact hok))
          obtain ⟨k0, k1⟩ := hok
          clear hnz hrg
          generalize (getN rest).1 = gn at *
          generalize (getN rest).2 = gm at *
          obtain ⟨m, rfl⟩ := Int.eq_ofNat_of_zero_le (show 0 ≤ gm by omega)
          obtain ⟨ng, rfl⟩ := Int.eq_ofNat_of_zero_le r0
          rw [Int.toNat_natCast, Int.toNat_natCast] at hgo
          have hmn : m ≤ n' := by have := HN'.out; omega
          have hm0 : ((m : Int) == 0) = false := beq_eq_false_iff_ne.2 (by omega)
          have hg0 : ((ng : Int) == 0) = false := beq_eq_false_iff_ne.2 (by omega)
          have hd0 : decide ((32768 : Int) - n6 < ng) = false := decide_eq_false (by omega)
          have HRd := Lib.hid (hR.out.drop m hmn)
          have K1 := Lib.hid k1
          have HLT := Lib.hid hlt
          have h6s : IntKind.i64.wrap (32768 - (n6 : Int)) = 32768 - (n6 : Int) := IntWalk.i64_in _ (by omega)
          clear r3 k1 hlt
          go_upto_region 8 with fail
          go_cut [0] (fun sv wx => ∃ (A9 : Option Addr) (c9 : Nat), sv = .slice A9 (n' - m) c9 ∧ Hid (RI .u8 w (.slice A9 (n' - m) c9) (rest.drop m)) ∧ wx = wo)
          case first =>
            by_cases hcr : c' = m
            · have hcu : cutA A' c' m = A' := by unfold cutA; rw [if_pos hcr]
              rw [hcu] at HRd
              clear hcu
              have hc0 : c' - m = 0 := by omega
              rw [hc0] at HRd
              clear hc0
              go_wp2_with fail
              go_meet
              exact ⟨_, _, rfl, HRd, rfl⟩
            · have hcu : cutA A' c' m = A'.map (·.add m) := by unfold cutA; rw [if_neg hcr]
              rw [hcu] at HRd
              clear hcu
              go_wp2_with fail
              go_meet
              exact ⟨_, _, rfl, HRd, rfl⟩
          case rest =>
            obtain ⟨A9, c9, rfl, HR9, hwc⟩ := hcut
            rw [hwc]
            clear hwc
            obtain ⟨n9, hn9⟩ : ∃ n9, n9 = n' - m := ⟨_, rfl⟩
            rw [← hn9] at HR9 ⊢
            obtain ⟨rs, hrs⟩ : ∃ rs, rs = rest.drop m := ⟨_, rfl⟩
            rw [← hrs] at HR9 hgo
            have HBr : Hid (Bytes rs) := by rw [hrs]; exact hby.out.drop m
            have HN9 := Lib.hid HR9.out.len
            have hl9 := HR9.out.lc
            have HE := Lib.hid (hE.out.trans hgo.out)
            clear hn9 hrs HRd hm0 hg0 hd0 hE hgo hR hby h6s hb0
            by_cases h9 : n9 = 0
            · have hE2 : Hid (r = .error 3) := by
                show _ = _
                rw [HF.out, HE.out, if_pos (by rw [HN9.out]; exact h9)]; rfl
              subst h9
              go_wp2_with fail
              go_ret2
              exact RDec.error hE2.out hB.out
            · have hb9 : ((n9 : Int) == 0) = false := beq_eq_false_iff_ne.2 (by omega)
              have hp9 : 0 < n9 := by omega
              obtain ⟨ad9, ea, hxw⟩ := HR9.out.at_ 0 hp9
              cases ea
              rw [show ad9.add 0 = ad9 from rfl] at hxw
              obtain ⟨x0, x1⟩ := HBr.out.at_ 0
              have hE1 := HE.out
              rw [if_neg (by rw [HN9.out]; exact h9)] at hE1
              clear HE h9
              obtain ⟨p, hp⟩ := Int.eq_ofNat_of_zero_le x0
              rw [hp] at hE1 hxw x1
              rw [Int.toNat_natCast] at hE1
              have hx : wo.cell? ad9 = some (.int .u8 p) := (hB.out.cell (World.block_lt_of_cell? _ _ hxw)).trans hxw
              clear hp x0
              by_cases hpl : p < n3
              · rw [if_pos (by have := HN3.out; omega)] at hE1
                obtain ⟨ad3, ea, hyw⟩ := HL.out.at_ p hpl
                cases ea
                generalize pal.getD p 0 = y at *
                have HE1 := Lib.hid hE1
                have HXW := Lib.hid hxw
                have HYW := Lib.hid hyw
                have hdp : decide (n3 ≤ p) = false := decide_eq_false (by omega)
                have HRd9 := Lib.hid (HR9.out.drop 1 hp9)
                have HBd : Hid (Bytes (rs.drop 1)) := HBr.out.drop 1
                clear hE1 hxw hyw HR9 HBr
                go_wp2_with fail
                go_loopg [6, 9] ng (fun g o i wr => ∃ k : Nat, i = .int .i64 k ∧ k ≤ ng ∧ Hid (k + g = ng) ∧ Hid (Own .u8 5 wr w.heap.size o (out ++ List.replicate k y)) ∧ Hid (Below w.heap.size w wr))
                case atStart => exact ⟨0, rfl, by omega, by show _ = _; omega, by rw [List.replicate_zero, List.append_nil]; exact hO, hB⟩
                case round =>
                  obtain ⟨k, rfl, hk, hg2, hO2, hB2⟩ := hrel
                  by_cases hkg : (k : Int) < ng
                  · have hxr : wr.cell? ad9 = some (.int .u8 p) := (hB2.out.cell (World.block_lt_of_cell? _ _ HXW.out)).trans HXW.out
                    have hyr : wr.cell? (ad3.add p) = some (.int .u8 y) := (hB2.out.cell (World.block_lt_of_cell? _ _ HYW.out)).trans HYW.out
                    have hws := hB2.out.size
                    go_wp2_with (at_builtin; refine appR (w0 := w) w.heap.size rfl (.tmp 52) (.tmp 60) 25 5 .u8 1 rfl Try.underlying25 info5 (by omega) u6 (out ++ List.replicate k y) [y] (.slice (some ⟨wr.heap.size, 0, none⟩) 1 1) rfl rfl (hO2.out.alloc _) (RI.box .u8 5 wr [y] (by simp) (0, 0)) (hB2.out.alloc hws _) (by simp; omega) (by have := HLT.out; have := HN6.out; have := K1.out; simp; omega) ?_; intro v7 w7 h7 hb7 hg7 ha7; have H7 := Lib.hid h7; have HB7 := Lib.hid hb7; clear h7 hb7 hg7 ha7)
                    go_roundg (ng - (k + 1))
                    case measure => have := hg2.out; omega
                    case rel => exact ⟨k + 1, by go_num, by omega, by show _ = _; omega, by rw [List.replicate_succ', ← List.append_assoc]; exact H7, HB7⟩
                  · obtain rfl : ng = k := by omega
                    have HM : Hid (out.length + ng ≤ N ∧ out.length < N ∧ 1 ≤ ng) := by have := HLT.out; have := HN6.out; have := K1.out; have := hNi.out; show _ ∧ _; omega
                    by_cases hc1 : c9 = 1
                    · obtain rfl : n9 = 1 := by omega
                      subst hc1
                      have HRz : Hid (RI .u8 w (.slice (some ad9) 0 0) (rs.drop 1)) := HRd9
                      go_wp2_with fail
                      go_roundg (N - (out.length + ng))
                      case measure => have := hg.out; have := HM.out; omega
                      case rel => exact ⟨f, _, _, _, _, _, rfl, HRz, hO2, HE1, HBd, by have := HM.out; show _ = _; rw [List.length_append, List.length_replicate]; omega, by have := hf.out; have := HM.out; show _ ≤ _; rw [List.length_append, List.length_replicate]; omega, hB2⟩
                    · have hcu : cutA (some ad9) c9 1 = some (ad9.add 1) := by unfold cutA; rw [if_neg hc1]; rfl
                      rw [hcu] at HRd9
                      clear hcu
                      go_wp2_with fail
                      go_roundg (N - (out.length + ng))
                      case measure => have := hg.out; have := HM.out; omega
                      case rel => exact ⟨f, _, _, _, _, _, rfl, HRd9, hO2, HE1, HBd, by have := HM.out; show _ = _; rw [List.length_append, List.length_replicate]; omega, by have := hf.out; have := HM.out; show _ ≤ _; rw [List.length_append, List.length_replicate]; omega, hB2⟩
              · rw [if_neg (by have := HN3.out; omega)] at hE1
                have hE2 : Hid (r = .error 4) := by show _ = _; rw [HF.out, hE1]; rfl
                have hdp : decide (n3 ≤ p) = true := decide_eq_true (by omega)
                clear hE1
                go_wp2_with fail
                go_ret2
                exact RDec.error hE2.out hB.out
        · have hE2 : Hid (r = .error 4) := by
            show _ = _
            rw [HF.out, hE.out, runsD_bad f rest pal out hol.out (by rw [HN'.out]; omega) (by rw [← HN6.out]; exact hok)]; rfl
          clear hE
          rcases hrg.out with hz | ⟨r0, r1, r2, r3, r4⟩
          · rw [hz]
            clear hz hok
            go_wp2_with fail
            go_ret2
            exact RDec.error hE2.out hB.out
          · clear hrg r3
            generalize (getN rest).1 = gn at *
            generalize (getN rest).2 = gm at *
            have hm0 : (gm == 0) = false := beq_eq_false_iff_ne.2 (by omega)
            by_cases hz : gn = 0
            · subst hz
              clear hok
              go_wp2_with fail
              go_ret2
              exact RDec.error hE2.out hB.out
            · have hg0 : (gn == 0) = false := beq_eq_false_iff_ne.2 hz
              have hg1 : 32768 - (n6 : Int) < gn := by omega
              clear hok hz
              go_wp2_with fail
              go_ret2
              exact RDec.error hE2.out hB.out
    · have hE2 : Hid (R0 = .ok (rest, out)) := by rw [hE.out, runsD_stop _ _ _ _ (by have := HN6.out; omega)]; exact rfl
      clear hE
      by_cases h0 : 0 < n'
      · have hE3 : Hid (r = .error 2) := by
          show _ = _
          rw [HF.out, hE2.out, fin1_long _ _ (by rw [HN'.out]; omega)]
        go_wp2_with fail
        go_ret2
        exact RDec.error hE3.out hB.out
      · have hE3 : Hid (r = .ok out) := by
          show _ = _
          rw [HF.out, hE2.out, fin1_ok _ _ (by rw [HN'.out]; omega)]
        go_wp2_with fail
        go_ret2
        exact RDec.ok hE3.out hO.out hB.out
end Go.Proofs.Ytpakcmcoafbgkaa.Cx
