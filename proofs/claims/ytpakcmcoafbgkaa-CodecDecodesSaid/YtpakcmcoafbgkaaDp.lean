/- CodecDecodes: the walk. -/
import Derived.Test.YtpakcmcoafbgkaaDo
import Derived.Test.YtpakcmcoafbgkaaDd
import Derived.Lib.ConvBytes
namespace Go.Proofs.Ytpakcmcoafbgkaa.Cx
open Go.RowKit
theorem strB_size (xs : List Int) : (strB xs).size = xs.length := by show (xs.map _).toArray.size = _; simp
theorem below_bytesWorld (w : World) (e : TypeId) (s : ByteArray) : Below w.heap.size w (Lib.bytesWorld w e s) :=
  ⟨rfl, rfl, rfl, by rw [Lib.bytesWorld_size]; omega, fun k hk => Lib.bytesWorld_at_old w e s k hk⟩
theorem bytes_of_str (w : World) (xs : List Int) (hb : Bytes xs) (hl : xs.length ≤ 1000000) :
    ∃ v w', (convert 9 25 (.string (strB xs))).run Try.prog w = .ok v w' ∧ RI .u8 w' v xs ∧ Below w.heap.size w w' := by
  have h1 := grownCap_ge w (strB xs).size 0 5
  have h2 := grownCap_le_maxLen w (strB xs).size 0 5 (by rw [strB_size]; unfold maxLen; omega)
  refine ⟨_, _, Lib.run_convert_string_bytes w 9 25 5 (strB xs) Try.underlying9 Try.underlying25 Try.underlying5, ?_, below_bytesWorld _ _ _⟩
  rw [strB_size] at h1 h2 ⊢
  refine ⟨_, _, rfl, h1, by simpa [maxLen] using h2, fun j hj => ⟨_, rfl, ?_⟩⟩
  rw [adp, Nat.zero_add, Lib.bytesWorld_cell _ _ _ j (by rw [strB_size]; exact hj)]
  have hj' : xs.getD j 0 ∈ xs := getD_mem hj
  obtain ⟨p0, p1⟩ := hb _ hj'
  have e : (strB xs).data.toList.getD j 0 = UInt8.ofNat (xs.getD j 0).toNat := by
    show (xs.map fun x => UInt8.ofNat x.toNat).toArray.toList.getD j 0 = _
    rw [List.getD_eq_getElem?_getD, List.getD_eq_getElem?_getD]
    simp [List.getElem?_eq_getElem hj]
  rw [e]
  simp only [UInt8.toNat_ofNat', Option.some.injEq, Value.int.injEq, true_and]
  omega
theorem runsD_ne0 : ∀ (f : Nat) (b pal out : List Int) (e : Int), runsD f b pal out = .error e → e ≠ 0
  | 0, b, pal, out, e, h => by cases h
  | f + 1, b, pal, out, e, h => by
    unfold runsD at h
    split at h
    · split at h
      · injection h with h; omega
      · split at h
        · split at h
          · injection h with h; omega
          · split at h
            · exact runsD_ne0 f _ _ _ e h
            · injection h with h; omega
        · injection h with h; omega
    · cases h
theorem putP_ne0 (pal : List Int) : ∀ (ps out : List Int) (e : Int), putP pal ps out = .error e → e ≠ 0
  | [], out, e, h => by cases h
  | p :: ps, out, e, h => by
    unfold putP at h
    split at h
    · exact putP_ne0 pal ps _ e h
    · injection h with h; omega
theorem dec_ne0 {b : List Int} {e : Int} (h : dec b = .error e) : e ≠ 0 := by
  unfold dec at h
  split at h
  · injection h with h; omega
  split at h
  · split at h
    · injection h with h; omega
    split at h
    · unfold formD at h
      split at h
      · split at h
        · rename_i hr; injection h with h; subst h; exact runsD_ne0 _ _ _ _ _ hr
        · split at h
          · cases h
          · injection h with h; omega
      · split at h
        · injection h with h; omega
        · split at h
          · rename_i hr; injection h with h; subst h; exact putP_ne0 _ _ _ _ hr
          · split at h
            · cases h
            · injection h with h; omega
    · injection h with h; omega
  · injection h with h; omega
set_option maxHeartbeats 6400000 in
set_option maxRecDepth 100000 in
theorem decodes_any (vh : Value) (hs : List Int) (many tail : Int) (w : World) (h : RI .u8 w vh hs) (hb : Bytes hs) (hm : -9223372036854775808 ≤ many ∧ many ≤ 9223372036854775807) (ht : 0 ≤ tail ∧ tail ≤ 255) :
    Calls Try.prog 5 #[vh, .int .i64 many, .int .u8 tail] w (isTrue w) := by
  obtain ⟨A, n, c, rfl⟩ : ∃ A n c, vh = .slice A n c := by
    obtain ⟨A, c, e, _⟩ := h
    exact ⟨A, _, c, e⟩
  have HL := Lib.hid h.len
  have hlc := h.lc
  have H := Lib.hid h
  have HB := Lib.hid hb
  clear h hb
  go_enter Try.func5, Try.ntmps5
  go_wp2_with fail
  refine (awake_any w).mono ?_
  rintro e w1 ⟨rfl, hb1⟩
  have HB1 := Lib.hid hb1
  have hs1 := hb1.size
  clear hb1
  by_cases h1 : many < 0
  · go_wp2_with fail
    go_ret
    exact ⟨rfl, HB1.out⟩
  by_cases h2 : 40000 < many
  · go_wp2_with fail
    go_ret
    exact ⟨rfl, HB1.out⟩
  by_cases h3 : 40000 < n
  · go_wp2_with fail
    go_ret
    exact ⟨rfl, HB1.out⟩
  obtain ⟨m, rfl⟩ := Int.eq_ofNat_of_zero_le (show 0 ≤ many by omega)
  have hn : (n : Int) ≤ 40000 := by omega
  have hm2 : (m : Int) ≤ 40000 := by omega
  have HR1 : Hid (RI .u8 w1 (.slice A n c) hs) := H.out.below HB1.out
  clear h1 h2 h3
  go_wp2_with (at_builtin; refine appR (w0 := w1) w1.heap.size rfl (.const (.slice none 0 0)) (.tmp 28) 25 5 .u8 1 rfl Try.underlying25 info5 (by omega) (.slice none 0 0) [] hs _ rfl rfl (Own.nil _ _ _ _) HR1.out (Below.refl _ _) (Nat.le_refl _) (by have := HL.out; simp; omega) ?_; intro v2 w2 h2 hb2 hg2 ha2; have H2 := Lib.hid h2; have HB2 := Lib.hid hb2; clear h2 hb2 hg2 ha2)
  go_loopw [8, 9] (fun b i wr => ∃ (k : Nat) (xs : List Int), k ≤ m ∧ i = .int .i64 k ∧ Hid (Own .u8 5 wr w1.heap.size b xs) ∧ Hid (Bytes xs) ∧ Hid (xs.length = n + k) ∧ Hid (Below w1.heap.size w1 wr)) (fun _ i _ => m - (intOf i).toNat)
  case atStart => exact ⟨0, [] ++ hs, by omega, rfl, H2, HB, by have := HL.out; show _ = _; simp; omega, HB2⟩
  case round =>
    obtain ⟨k, xs, hk, rfl, hO, hby, hln, hB⟩ := hrel
    have hws := hB.out.size
    by_cases hkm : k < m
    · go_wp2_with (at_builtin; refine appR (w0 := w1) w1.heap.size rfl (.tmp 35) (.tmp 37) 25 5 .u8 1 rfl Try.underlying25 info5 (by omega) u8 xs [tail] (.slice (some ⟨wr.heap.size, 0, none⟩) 1 1) rfl rfl (hO.out.alloc _) (RI.box .u8 5 wr [tail] (by simp) (0, 0)) (hB.out.alloc hws _) (by simp; omega) (by have := hln.out; simp; omega) ?_; intro v3 w3 h3 hb3 hg3 ha3; have H3 := Lib.hid h3; have HB3 := Lib.hid hb3; clear h3 hb3 hg3 ha3)
      exact ⟨⟨k + 1, xs ++ [tail], by omega, by go_num, H3, fun x hx => by
        rcases List.mem_append.1 hx with hx | hx
        · exact hby.out x hx
        · rw [List.mem_singleton] at hx; subst hx; omega, by have := hln.out; show _ = _; simp; omega, HB3⟩, by simp [intOf]; omega⟩
    · obtain ⟨wo, rfl⟩ : ∃ wo, wo = wr := ⟨_, rfl⟩
      have HBo : Hid (Below w.heap.size w wo) := HB1.out.trans (hB.out.mono hs1)
      have hso := HBo.out.size
      have hcs : (convert 25 9 u8).run Try.prog wo = .ok (.string (strB xs)) wo := str_any wo u8 xs hO.out.RI hby.out
      have hxl : xs.length ≤ 1000000 := by have := hln.out; omega
      go_wp2_with fail
      clear hcs
      refine (decode_any u8 xs wo hO.out.RI hby.out (fun g hg => (hO.out.base g hg).2)).mono ?_
      rcases hd : dec xs with e0 | out
      · have he0 : e0 ≠ 0 := dec_ne0 hd
        have HD := Lib.hid hd
        rintro e w4 ⟨rfl, hb4⟩
        have HB4 : Hid (Below w.heap.size w w4) := HBo.out.trans (hb4.mono hso)
        have hs4 := HB4.out.size
        have HO4 := Lib.hid (hO.out.below hb4)
        clear hb4 hd
        obtain ⟨v5, w5, hcv, hR5, hb5⟩ := bytes_of_str w4 xs hby.out hxl
        have HB5 : Hid (Below w.heap.size w w5) := HB4.out.trans (hb5.mono hs4)
        have hs5 := HB5.out.size
        have HO5 := Lib.hid (HO4.out.below hb5)
        have HR5 := Lib.hid hR5
        clear hR5 hb5
        go_wp2_with fail
        refine (rdecode_any v5 xs w5 HR5.out hby.out).mono ?_
        rw [HD.out]
        rintro e w6 ⟨rfl, hb6⟩
        have HB6 : Hid (Below w.heap.size w w6) := HB5.out.trans (hb6.mono hs5)
        have hc6 : (convert 25 9 u8).run Try.prog w6 = .ok (.string (strB xs)) w6 := str_any w6 u8 xs (HO5.out.below hb6).RI hby.out
        have hne0 : (e0 == 0) = false := beq_eq_false_iff_ne.2 he0
        have hne1 : (e0 != 0) = true := bne_iff_ne.2 he0
        clear hb6 he0
        go_wp2_with fail
        go_quiet (fail)
        go_wp2
        go_ret
        exact ⟨rfl, HB6.out.trans (Drw.below ⟨_, rfl⟩ _)⟩
      · rintro e w4 ⟨gd, rfl, hC, hgd, hb4⟩
        have HD := Lib.hid hd
        have HB4 : Hid (Below w.heap.size w w4) := HBo.out.trans (hb4.mono hso)
        have hs4 := HB4.out.size
        have HO4 := Lib.hid (hO.out.below hb4)
        have HC := Lib.hid hC
        have HKB : Hid (Bytes out) := kinds_bytes (dec_ok hby.out hd).2
        clear hb4 hd hC
        obtain ⟨v5, w5, hcv, hR5, hb5⟩ := bytes_of_str w4 xs hby.out hxl
        have HB5 : Hid (Below w.heap.size w w5) := HB4.out.trans (hb5.mono hs4)
        have hs5 := HB5.out.size
        have HO5 := Lib.hid (HO4.out.below hb5)
        have HC5 : Hid (Chk w5 gd out) := HC.out.below hb5
        have HR5 := Lib.hid hR5
        clear hR5 hb5
        go_wp2_with fail
        refine (rdecode_any v5 xs w5 HR5.out hby.out).mono ?_
        rw [HD.out]
        rintro e w6 ⟨vd, rfl, hOd, hb6⟩
        have HB6 : Hid (Below w.heap.size w w6) := HB5.out.trans (hb6.mono hs5)
        have hs6 := HB6.out.size
        have HC6 : Hid (Chk w6.drew gd out) := (HC5.out.below hb6).below ((Below.refl _ _).drew)
        have HOd : Hid (Own .u8 5 w6.drew w5.heap.size vd out) := hOd.drew
        have hc6 : (convert 25 9 u8).run Try.prog w6 = .ok (.string (strB xs)) w6 := str_any w6 u8 xs (HO5.out.below hb6).RI hby.out
        have hc7 : (convert 25 9 vd).run Try.prog w6.drew = .ok (.string (strB out)) w6.drew := str_any _ vd out HOd.out.RI HKB.out
        clear hb6 hOd
        go_wp2_with fail
        go_region_law
          ((go_simp; go_at_call 14; refine (bytes_any gd out w6.drew HC6.out).mono ?_; rintro e w7 ⟨v7, rfl, hO7, hb7⟩; have hcv7 : (convert 25 9 v7).run Try.prog w7 = .ok (.string (strB out)) w7 := str_any w7 v7 out hO7.RI HKB.out; have hcvd : (convert 25 9 vd).run Try.prog w7 = .ok (.string (strB out)) w7 := str_any w7 vd out (HOd.out.below hb7).RI HKB.out; have HB7 := Lib.hid hb7; clear hO7 hb7))
        all_goals
          go_wp2_with fail
          go_ret
          exact ⟨rfl, (HB6.out.drew).trans (HB7.out.mono hs6)⟩
end Go.Proofs.Ytpakcmcoafbgkaa.Cx
