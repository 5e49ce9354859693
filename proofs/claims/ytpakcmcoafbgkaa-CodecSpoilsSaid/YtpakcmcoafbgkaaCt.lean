/- Packed numbers are put: the program's putBits. -/
import Derived.Test.YtpakcmcoafbgkaaCs
namespace Go.Proofs.Ytpakcmcoafbgkaa.Cx
open Go.RowKit
theorem packB_snoc (w : Nat) : ∀ (l : List Int) (p : Int), packB w (l ++ [p]) = packB w l + 2 ^ (w * l.length) * p
  | [], p => by simp [packB]
  | x :: l, p => by
    simp only [List.cons_append, packB, packB_snoc w l p, List.length_cons]
    rw [Nat.mul_succ, Int.pow_add, Int.mul_add]
    have : (2 : Int) ^ w * (2 ^ (w * l.length) * p) = 2 ^ (w * l.length) * 2 ^ w * p := by
      rw [← Int.mul_assoc, Int.mul_comm (2 ^ w) (2 ^ (w * l.length))]
    rw [this]; omega
theorem packB_range (w : Nat) : ∀ (l : List Int), (∀ p ∈ l, 0 ≤ p ∧ p < 2 ^ w) → 0 ≤ packB w l ∧ packB w l < 2 ^ (w * l.length)
  | [], _ => by simp [packB]
  | p :: l, h => by
    obtain ⟨h0, h1⟩ := packB_range w l (fun q hq => h q (by simp [hq]))
    obtain ⟨p0, p1⟩ := h p (by simp)
    have hp : (0 : Int) < 2 ^ w := Int.pow_pos (by decide)
    simp only [packB, List.length_cons, Nat.mul_succ, Int.pow_add]
    have a1 : 0 ≤ 2 ^ w * packB w l := Int.mul_nonneg (Int.le_of_lt hp) h0
    have a2 : 2 ^ w * (packB w l + 1) ≤ 2 ^ w * 2 ^ (w * l.length) := Int.mul_le_mul_of_nonneg_left (by omega) (Int.le_of_lt hp)
    rw [Int.mul_add, Int.mul_one] at a2
    rw [Int.mul_comm (2 ^ (w * l.length))]
    omega
theorem or_shl (wd k : Nat) (hk : k < 8 / wd) (acc p : Int) (h0 : 0 ≤ acc) (h1 : acc < 2 ^ (wd * k)) (p0 : 0 ≤ p) (p1 : p < 2 ^ wd) :
    bits .or .u8 acc (p * 2 ^ (wd * k) % 256) = acc + 2 ^ (wd * k) * p := by
  have hp : (0 : Int) < 2 ^ (wd * k) := Int.pow_pos (by decide)
  have a1 : 0 ≤ p * 2 ^ (wd * k) := Int.mul_nonneg p0 (Int.le_of_lt hp)
  have hle : wd * k + wd ≤ 8 := by
    have h2 : wd * (k + 1) ≤ wd * (8 / wd) := Nat.mul_le_mul_left _ hk
    have h3 : wd * (8 / wd) ≤ 8 := Nat.mul_div_le 8 wd
    rw [Nat.mul_succ] at h2; omega
  have a2 : (p + 1) * 2 ^ (wd * k) ≤ 2 ^ wd * 2 ^ (wd * k) := Int.mul_le_mul_of_nonneg_right (by omega) (Int.le_of_lt hp)
  rw [← Int.pow_add, Int.add_mul, Int.one_mul] at a2
  have a3 : (2 : Int) ^ (wd + wd * k) ≤ 2 ^ 8 := by
    have : (2 : Nat) ^ (wd + wd * k) ≤ 2 ^ 8 := Nat.pow_le_pow_right (by decide) (by omega)
    exact_mod_cast this
  have a4 : (2 : Int) ^ 8 = 256 := rfl
  have a5 : (2 : Int) ^ (wd * k) ≤ 2 ^ 8 := by
    have : (2 : Nat) ^ (wd * k) ≤ 2 ^ 8 := Nat.pow_le_pow_right (by decide) (by omega)
    exact_mod_cast this
  have e : p * 2 ^ (wd * k) % 256 = p * 2 ^ (wd * k) := by omega
  rw [e, bits_or_comm, bits_join .u8 8 (by decide) wraps_u8 (wd * k) _ _ a1 (Int.mul_emod_left _ _) (by omega) h0 h1 (by omega), Int.mul_comm, Int.add_comm]
set_option maxHeartbeats 1600000 in
set_option maxRecDepth 100000 in
theorem putBits_any (base : Nat) (v : Value) (xs : List Int) (vp : Value) (ps : List Int) (wd : Nat) (w : World) (hO : Own .u8 5 w base v xs) (hB : base ≤ w.heap.size) (hp : RI .u8 w vp ps)
    (hne : ∀ g, vp.ownBlock = some g → v.ownBlock ≠ some g) (hlp : Low w.heap.size vp) (hx : (xs.length : Int) ≤ 1000) (hps : (ps.length : Int) ≤ 32768) (hw : wd = 1 ∨ wd = 2 ∨ wd = 4 ∨ wd = 8)
    (hdv : ∃ t, ps.length = t * (8 / wd)) (hpp : ∀ p ∈ ps, 0 ≤ p ∧ p < 2 ^ wd) : Calls Try.prog 24 #[v, vp, .int .i64 wd] w (AppPost base v xs (bitsE wd ps.length ps) w) := by
  obtain ⟨A, n, c, rfl⟩ : ∃ A n c, vp = .slice A n c := by
    obtain ⟨A, c, e, _⟩ := hp
    exact ⟨A, _, c, e⟩
  have hrl := hp.len
  have HLC := Lib.hid hp.lc
  have HO := Lib.hid hO
  have HP := Lib.hid hp
  have HNE := Lib.hid hne
  have HLP := Lib.hid hlp
  have HPP := Lib.hid hpp
  have HW := Lib.hid hw
  obtain ⟨t, ht⟩ := hdv
  obtain ⟨q, hq⟩ : ∃ q, q = 8 / wd := ⟨_, rfl⟩
  rw [← hq] at ht
  have hq1 : ((8 : Int) / (wd : Int)) = (q : Int) := by
    rw [hq]
    rcases hw with rfl | rfl | rfl | rfl <;> rfl
  have hq0 : 1 ≤ q ∧ q ≤ 8 := by rcases hw with rfl | rfl | rfl | rfl <;> simp [hq]
  have hwd : 1 ≤ wd ∧ wd ≤ 8 := by omega
  obtain ⟨w1', w8'⟩ := hwd
  obtain ⟨q1', q8'⟩ := hq0
  have HQ1 := Lib.hid hq1
  have HQ := Lib.hid hq
  have HT : Hid (n = t * q) := hrl.symm.trans ht
  have hns : (n : Int) ≤ 32768 := by omega
  clear hO hp hne hlp hpp hw hq hq1 ht hps
  have HRL := Lib.hid hrl
  clear hrl
  go_enter Try.func24, Try.ntmps24
  go_wp2_with fail
  rw [HQ1.out]
  go_loopw [0, 8] (fun b i wr => ∃ (out : List Int) (s f : Nat), s ≤ t ∧ i = .int .i64 (s * q : Nat) ∧ Hid (Own .u8 5 wr base b out) ∧ Hid (xs ++ bitsE wd ps.length ps = out ++ bitsE wd f (ps.drop (s * q))) ∧ Hid (n ≤ f + s * q) ∧
      Hid (out.length = xs.length + s) ∧ Hid (w.grownBy wr v.ownBlock) ∧ Hid (At w v b)) (fun _ i _ => n - (intOf i).toNat)
  case atStart => exact ⟨xs, 0, ps.length, by omega, by simp, HO, by rw [Nat.zero_mul]; exact rfl, by show n ≤ _; have := HRL.out; omega, rfl, grown_refl _ _, At.refl _ _⟩
  case round =>
    obtain ⟨out, s, f, hs, rfl, hO, hE, hf, hL, hG, hA⟩ := hrel
    by_cases hst : s < t
    · have hm1 : Hid (s * q + q ≤ n) := by
        have h1 : (s + 1) * q ≤ t * q := Nat.mul_le_mul_right _ hst
        rw [Nat.succ_mul, ← HT.out] at h1; exact h1
      have hs1 : Hid ((s + 1) * q = s * q + q) := Nat.succ_mul _ _
      generalize ha : s * q = a at *
      have hm2 := hm1.out
      have HAq := Lib.hid ha
      clear ha
      have hRr : Hid (RI .u8 wr (.slice A n c) ps) := HP.out.grown hG.out (fun g hg => HNE.out g hg)
      obtain ⟨ad, ea, hx0⟩ := hRr.out.at_ a (by omega)
      cases ea
      clear hx0
      have hca : ¬ (c = a) := by have := HLC.out; omega
      have hcq : a + q ≤ c := by have := HLC.out; omega
      have hcM : (c : Int) ≤ 9223372036854775807 := by have := HLC.out; omega
      have hch : Hid (((ps.drop a).take q).length = q) := by
        show _ = _
        rw [List.length_take, List.length_drop]; have := HRL.out; omega
      have hcm : Hid (∀ p ∈ (ps.drop a).take q, 0 ≤ p ∧ p < 2 ^ wd) := fun p hp => HPP.out p (List.mem_of_mem_drop (List.mem_of_mem_take hp))
      have hbE : Hid (bitsE wd f (ps.drop a) = packB wd ((ps.drop a).take q) :: bitsE wd (f - 1) (ps.drop (a + q))) := by
        obtain ⟨f', rfl⟩ : ∃ f', f = f' + 1 := ⟨f - 1, by have := hf.out; omega⟩
        show _ = _
        rw [← List.drop_drop]
        rcases hd : ps.drop a with _ | ⟨x, l⟩
        · exfalso
          have h1 : (ps.drop a).length = 0 := by rw [hd]; rfl
          rw [List.length_drop] at h1; have := HRL.out; omega
        · rw [HQ.out]; rfl
      go_wp2_with fail
      go_loop [9, 28] (fun vv i => ∃ (k : Nat) (acc : Int), k ≤ q ∧ i = .int .i64 k ∧ vv = .int .u8 acc ∧ 0 ≤ acc ∧ Hid (acc = packB wd (((ps.drop a).take q).take k))) (fun _ i => q - (intOf i).toNat)
      case atStart => exact ⟨0, 0, by omega, rfl, rfl, by omega, rfl⟩
      case round =>
        obtain ⟨k, acc, hk, rfl, rfl, ha0, hac⟩ := hrel
        by_cases hkq : k < q
        · obtain ⟨ad', ea, hx⟩ := hRr.out.at_ (a + k) (by omega)
          cases ea
          rw [← add_add'] at hx
          have hpk : ps.getD (a + k) 0 ∈ (ps.drop a).take q := by
            have h1 : k < ((ps.drop a).take q).length := by rw [hch.out]; exact hkq
            have h2 : ((ps.drop a).take q)[k] = ps.getD (a + k) 0 := by
              rw [List.getElem_take, List.getElem_drop, List.getD_eq_getElem?_getD, List.getElem?_eq_getElem]; rfl
            rw [← h2]; exact List.getElem_mem h1
          obtain ⟨p0, p1⟩ := hcm.out _ hpk
          have hsn : ((ps.drop a).take q).take (k + 1) = ((ps.drop a).take q).take k ++ [ps.getD (a + k) 0] := by
            rw [take_snoc _ k (by rw [hch.out]; exact hkq)]
            rw [List.getD_eq_getElem?_getD, List.getElem?_take, if_pos hkq, List.getElem?_drop, ← List.getD_eq_getElem?_getD]
          have hkl : (((ps.drop a).take q).take k).length = k := by rw [List.length_take, hch.out]; omega
          have hrg := packB_range wd (((ps.drop a).take q).take k) (fun p hp => hcm.out p (List.mem_of_mem_take hp))
          rw [hkl, ← hac.out] at hrg
          have hor := Lib.hid (or_shl wd k (by rw [← HQ.out]; exact hkq) acc (ps.getD (a + k) 0) hrg.1 hrg.2 p0 p1)
          have hN : Hid (acc + 2 ^ (wd * k) * ps.getD (a + k) 0 = packB wd (((ps.drop a).take q).take (k + 1))) := by
            show _ = _
            rw [hsn, packB_snoc, hkl, ← hac.out]
          have hN0 : 0 ≤ acc + 2 ^ (wd * k) * ps.getD (a + k) 0 := by
            rw [hN.out]
            exact (packB_range wd _ (fun p hp => hcm.out p (List.mem_of_mem_take hp))).1
          have hw8 : wd * k ≤ 8 := by
            have h2 : wd * k ≤ wd * q := Nat.mul_le_mul_left _ hk
            have h3 : wd * q ≤ 8 := by rw [HQ.out]; exact Nat.mul_div_le 8 wd
            omega
          have hkw : wrap64 ((k : Int) * (wd : Int)) = ((wd * k : Nat) : Int) := by
            rw [← Int.natCast_mul, Nat.mul_comm k wd]; unfold wrap64; omega
          clear hpk hsn hkl hrg p1
          generalize ps.getD (a + k) 0 = p at *
          generalize wd * k = m at *
          go_wp2_with fail
          rw [hor.out]
          go_round
          case measure => simp [intOf]; omega
          case rel => exact ⟨k + 1, _, by omega, by go_num, rfl, hN0, hN⟩
        · have hkq' : k = q := by omega
          have hacq : Hid (acc = packB wd ((ps.drop a).take q)) := by
            have h1 := hac.out
            rw [hkq', List.take_of_length_le (by rw [hch.out]; exact Nat.le_refl _)] at h1
            exact h1
          clear hac hkq'
          have hws := hG.out.size
          have hlen : (out.length : Int) ≤ 40000 := by have := hL.out; have h1 := HAq.out; have : s * 1 ≤ s * q := Nat.mul_le_mul_left _ q1'; omega
          have hol : Hid (out.length + 1 = xs.length + (s + 1)) := by show _ = _; have := hL.out; omega
          go_wp2_with (at_builtin; refine appR (w0 := wr) base rfl (.tmp 41) (.tmp 43) 25 5 .u8 1 rfl Try.underlying25 info5 (by omega) u0 out [acc] (.slice (some ⟨wr.heap.size, 0, none⟩) 1 1) rfl rfl (hO.out.alloc _) (RI.box .u8 5 wr [acc] (by simp) (0, 0)) ((Below.refl _ _).alloc (by omega) _) (by simp; omega) (by simp; omega) ?_; intro v1 w1 h1 hb1 hg1 ha1)
          have hgb : w.grownBy w1 v.ownBlock := grown_trans hG.out hA.out (grown_of_below' (below_alloc wr _) hg1)
          have hab : At w v v1 := hA.out.trans hws (ha1.of_below (below_alloc wr _).size)
          refine ⟨⟨out ++ [acc], s + 1, f - 1, hst, by rw [hs1.out]; rfl, h1, ?_, ?_, ?_, hgb, hab⟩, by simp [intOf]; omega⟩
          · show _ = _
            rw [hs1.out, hE.out, hbE.out, hacq.out, List.append_assoc]; rfl
          · rw [hs1.out]; show _ ≤ _; have := hf.out; omega
          · show _ = _
            rw [List.length_append, List.length_singleton]; exact hol.out
    · have hsn : s * q = n := by rw [show s = t by omega]; exact HT.out.symm
      have hfin : Hid (Own .u8 5 wr base u0 (xs ++ bitsE wd ps.length ps)) := by
        have e : bitsE wd f (ps.drop (s * q)) = [] := by
          rw [List.drop_eq_nil_of_le (by rw [HRL.out]; omega)]; cases f <;> rfl
        have := hE.out
        rw [e, List.append_nil] at this
        show Own _ _ _ _ _ _
        rw [this]; exact hO.out
      rw [hsn]
      clear hsn
      go_wp2_with fail
      go_ret
      exact ⟨_, rfl, hfin.out, hG.out, hA.out⟩
end Go.Proofs.Ytpakcmcoafbgkaa.Cx
