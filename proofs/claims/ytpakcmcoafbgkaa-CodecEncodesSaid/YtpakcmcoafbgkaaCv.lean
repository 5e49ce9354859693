/- codec.Encode: just what 'enc' tells. -/
import Derived.Test.YtpakcmcoafbgkaaCu
import Derived.Test.YtpakcmcoafbgkaaCg
namespace Go.Proofs.Ytpakcmcoafbgkaa.Cx
open Go.RowKit
/-- The table of places, as far as kind k: block gp holds it. -/
structure Tab (w : World) (gp : Nat) (cs : List Int) (k : Nat) : Prop where
  ex : ∃ arr : List Int, w.heap[gp]? = some (.cells (nums .u8 arr).toArray 46 (0, 0)) ∧ arr.length = 17 ∧ (∀ j, 0 ≤ arr.getD j 0 ∧ arr.getD j 0 ≤ 17) ∧ ∀ j, j < k → 0 < cs.count (j : Int) → IsPlace (palTo cs k) (j : Int) (arr.getD j 0)
theorem Tab.kept {w w' : World} {gp : Nat} {cs : List Int} {k : Nat} (h : Tab w gp cs k) (hb : w'.heap[gp]? = w.heap[gp]?) : Tab w' gp cs k := by
  obtain ⟨arr, h1, h2⟩ := h.ex
  exact ⟨arr, by rw [hb]; exact h1, h2⟩
theorem Tab.skip {w : World} {gp : Nat} {cs : List Int} {k : Nat} (h : Tab w gp cs k) (hc : ¬ 0 < cs.count (k : Int)) : Tab w gp cs (k + 1) := by
  obtain ⟨arr, h1, h2, h3, h4⟩ := h.ex
  refine ⟨arr, h1, h2, h3, fun j hj hc' => ?_⟩
  rw [palTo_succ, if_neg hc]
  by_cases hjk : j = k
  · subst hjk; exact absurd hc' hc
  · exact h4 j (by omega) hc'
theorem set_getD (l : List Int) (i j : Nat) (x : Int) (hi : i < l.length) : (l.set i x).getD j 0 = if j = i then x else l.getD j 0 := by
  rw [List.getD_eq_getElem?_getD, List.getElem?_set]
  by_cases h : i = j
  · subst h; simp [hi]
  · rw [if_neg h, if_neg (Ne.symm h), List.getD_eq_getElem?_getD]
theorem Tab.set {w : World} {gp : Nat} {cs : List Int} {k : Nat} (h : Tab w gp cs k) (hk : k < 17) (hc : 0 < cs.count (k : Int)) : Tab (w.setCell ⟨gp, k, none⟩ (.int .u8 ((palTo cs k).length : Int))) gp cs (k + 1) := by
  obtain ⟨arr, h1, h2, h3, h4⟩ := h.ex
  have hl := palTo_len cs k
  refine ⟨arr.set k ((palTo cs k).length : Int), ?_, by simpa using h2, fun j => ?_, fun j hj hc' => ?_⟩
  · rw [heap_setCell_same w gp k _ _ _ h1]; simp [nums, List.map_set]
  · rw [set_getD _ _ _ _ (by omega)]
    split
    · omega
    · exact h3 j
  · rw [set_getD _ _ _ _ (by omega), palTo_succ, if_pos hc]
    by_cases hjk : j = k
    · subst hjk; rw [if_pos rfl]; exact IsPlace.last _ _
    · rw [if_neg hjk]; exact (h4 j (by omega) hc').append _
theorem Tab.cell {w : World} {gp : Nat} {cs : List Int} (h : Tab w gp cs 17) (hk : Kinds cs) {x : Int} (hx : x ∈ cs) : w.cell? ⟨gp, x.toNat, none⟩ = some (.int .u8 (plc (palK cs) x)) ∧ 0 ≤ plc (palK cs) x ∧ plc (palK cs) x ≤ 17 := by
  obtain ⟨arr, h1, h2, h3, h4⟩ := h.ex
  obtain ⟨x0, x1⟩ := hk x hx
  have hp := h4 x.toNat (by omega) (by rw [show ((x.toNat : Nat) : Int) = x by omega]; exact List.count_pos_iff.2 hx)
  rw [show ((x.toNat : Nat) : Int) = x by omega] at hp
  have e : plc (palK cs) x = arr.getD x.toNat 0 := plc_eq (palTo_rising cs 17) hp
  have := h3 x.toNat
  refine ⟨?_, by rw [e]; exact this.1, by rw [e]; exact this.2⟩
  rw [e, cell_of_row w gp _ _ _ _ h1]
  have h5 := nums_at (k := .u8) (xs := arr) (j := x.toNat) (by omega)
  simpa using h5
theorem mixed_get (f : Int → Int) (cs : List Int) (k : Nat) (hk : k < cs.length) : ((cs.take k).map f ++ cs.drop k).getD k 0 = cs.getD k 0 := by
  rw [List.getD_eq_getElem?_getD, List.getElem?_append_right (by rw [List.length_map, List.length_take]; exact Nat.min_le_left _ _), List.getElem?_drop]
  rw [List.length_map, List.length_take, Nat.min_eq_left (Nat.le_of_lt hk), Nat.sub_self, Nat.add_zero, ← List.getD_eq_getElem?_getD]
theorem mixed_set (f : Int → Int) (cs : List Int) (k : Nat) (hk : k < cs.length) : ((cs.take k).map f ++ cs.drop k).set k (f (cs.getD k 0)) = (cs.take (k + 1)).map f ++ cs.drop (k + 1) := by
  have e : (cs.take k).length = k := by rw [List.length_take]; omega
  rw [List.set_append, if_neg (by rw [List.length_map, e]; exact Nat.lt_irrefl _), List.length_map, e, Nat.sub_self, List.drop_eq_getElem_cons hk, List.set_cons_zero]
  rw [take_snoc cs k hk, List.map_append, List.append_assoc]; rfl
theorem Own.frozen {k : IntKind} {e : TypeId} {w : World} {base g n cap : Nat} {xs : List Int} (h : Own k e w base (.slice (some ⟨g, 0, none⟩) n cap) xs) (i : Nat) : w.frozen? ⟨g, i, none⟩ = false := by
  rcases h.2 with ⟨h, _⟩ | ⟨g', cap, cur, he, _, hg, _⟩
  · cases h
  · injection he with e1 e2 e3
    injection e1 with e1
    injection e1 with e1
    subst e1
    exact frozen_of_row w g i _ _ hg
theorem width_fits (n k : Nat) (hn : n ≤ 17) (hk : (k : Int) = 32768) : (n : Int) ≤ 2 ^ widthN n ∧ ∃ t, k = t * (8 / widthN n) := by
  obtain rfl : k = 32768 := by omega
  unfold widthN
  split
  · exact ⟨by show (n : Int) ≤ 2; omega, 4096, rfl⟩
  · split
    · exact ⟨by show (n : Int) ≤ 4; omega, 8192, rfl⟩
    · split
      · exact ⟨by show (n : Int) ≤ 16; omega, 16384, rfl⟩
      · exact ⟨by show (n : Int) ≤ 256; omega, 32768, rfl⟩
theorem places_fit {cs : List Int} (hk : Kinds cs) {n wd : Nat} (hn : n = (palK cs).length) (hw : (n : Int) ≤ 2 ^ wd) (p : Int) (hp : p ∈ places cs) : 0 ≤ p ∧ p < 2 ^ wd := by
  obtain ⟨x, hx, rfl⟩ := List.mem_map.1 hp
  have := plc_of_mem (palTo_rising cs 17) (palK_mem (fun y hy => hk y hy) hx)
  obtain ⟨h0, h1, _⟩ := this
  have e : plc (palK cs) x = plc (palTo cs 17) x := rfl
  have e2 : (palTo cs 17).length = n := hn.symm
  exact ⟨by rw [e]; exact h0, by rw [e]; omega⟩
set_option maxHeartbeats 3200000 in
set_option maxRecDepth 100000 in
theorem encode_any (g : Nat) (cs : List Int) (w : World) (h : Chk w g cs) (hk : Kinds cs) : Calls Try.prog 12 #[.pointer (some ⟨g, 0, none⟩)] w (NewRow .u8 5 (enc cs) w) := by
  have HC := Lib.hid h
  have HK := Lib.hid hk
  have hgl := h.lt
  clear h hk
  go_enter Try.func12, Try.ntmps12
  go_wp2_with fail
  have hb0 := below_alloc w (.cells #[.int .u8 0, .int .u8 0, .int .u8 0, .int .u8 0, .int .u8 0, .int .u8 0, .int .u8 0, .int .u8 0, .int .u8 0, .int .u8 0, .int .u8 0, .int .u8 0, .int .u8 0, .int .u8 0, .int .u8 0, .int .u8 0, .int .u8 0] 46)
  have ht0 : Tab (w.alloc (.cells #[.int .u8 0, .int .u8 0, .int .u8 0, .int .u8 0, .int .u8 0, .int .u8 0, .int .u8 0, .int .u8 0, .int .u8 0, .int .u8 0, .int .u8 0, .int .u8 0, .int .u8 0, .int .u8 0, .int .u8 0, .int .u8 0, .int .u8 0] 46)) w.heap.size cs 0 :=
    ⟨[0, 0, 0, 0, 0, 0, 0, 0, 0, 0, 0, 0, 0, 0, 0, 0, 0], heap_alloc_new w _, rfl, fun j => by
      by_cases hj : j < 17
      · have key : ∀ j : Fin 17, 0 ≤ ([0, 0, 0, 0, 0, 0, 0, 0, 0, 0, 0, 0, 0, 0, 0, 0, 0] : List Int).getD j.val 0 ∧ ([0, 0, 0, 0, 0, 0, 0, 0, 0, 0, 0, 0, 0, 0, 0, 0, 0] : List Int).getD j.val 0 ≤ 17 := by decide
        exact key ⟨j, hj⟩
      · rw [List.getD_eq_getElem?_getD, List.getElem?_eq_none (by simpa using hj)]; simp, fun j hj => absurd hj (by omega)⟩
  have hz0 : w.heap.size < (w.alloc (.cells #[.int .u8 0, .int .u8 0, .int .u8 0, .int .u8 0, .int .u8 0, .int .u8 0, .int .u8 0, .int .u8 0, .int .u8 0, .int .u8 0, .int .u8 0, .int .u8 0, .int .u8 0, .int .u8 0, .int .u8 0, .int .u8 0, .int .u8 0] 46)).heap.size := by simp
  generalize w.alloc (.cells #[.int .u8 0, .int .u8 0, .int .u8 0, .int .u8 0, .int .u8 0, .int .u8 0, .int .u8 0, .int .u8 0, .int .u8 0, .int .u8 0, .int .u8 0, .int .u8 0, .int .u8 0, .int .u8 0, .int .u8 0, .int .u8 0, .int .u8 0] 46) = w1 at *
  refine (counts_any g cs w1 (HC.out.below hb0) HK.out).mono ?_
  rintro e w2 ⟨vc, rfl, hO, hb⟩
  obtain ⟨gc, cc, cur, rfl, hgb, hcur⟩ := hO.form (by rw [cnt_len]; omega)
  clear hcur
  rw [cnt_len] at hO
  rw [cnt_len]
  have hlt := (hO.base gc rfl).2
  have HR := Lib.hid hO.RI
  have hb2 : Hid (Below w.heap.size w w2) := hb0.trans (hb.mono hb0.size)
  have ht2 : Hid (Tab w2 w.heap.size cs 0) := ht0.kept (hb.block _ hz0)
  have hz2 : w.heap.size < w2.heap.size := Nat.lt_of_lt_of_le hz0 hb.size
  have hgcp : Hid (gc ≠ w.heap.size) := by show gc ≠ _; omega
  clear hO hb ht0 hb0
  generalize hgp : w.heap.size = gp at *
  have HGP := Lib.hid hgp
  clear hgp
  go_wp2_with fail
  go_loopw [3, 18] (fun v i wr => ∃ k : Nat, k ≤ 17 ∧ i = .int .i64 k ∧ Hid (Own .u8 5 wr gp v (palTo cs k)) ∧ Hid (v.ownBlock ≠ some gc) ∧ Hid (v.ownBlock ≠ some gp) ∧ Hid (RI .i64 wr (.slice (some ⟨gc, 0, none⟩) 17 cc) (cnt cs)) ∧ Hid (Tab wr gp cs k) ∧ Hid (Below gp w wr) ∧ gc < wr.heap.size ∧ gp < wr.heap.size)
    (fun _ i _ => 17 - (intOf i).toNat)
  case atStart => exact ⟨0, by omega, rfl, Own.nil _ _ _ _, fun e => (by cases e), fun e => (by cases e), HR, ht2, hb2, hlt, hz2⟩
  case round =>
    obtain ⟨k, hk, rfl, hO, hne, hnp, hR, hT, hbel, hgl1, hgl2⟩ := hrel
    by_cases hkn : k < 17
    · obtain ⟨ad, ea, hx⟩ := hR.out.at_ k hkn
      cases ea
      rw [adp, Nat.zero_add] at hx
      have hpl := palTo_len cs k
      have hcg : Hid ((cnt cs).getD k 0 = ((cs.count (k : Int) : Nat) : Int)) := cnt_get cs k hkn
      by_cases hc : 0 < cs.count (k : Int)
      · have hpt : Hid (palTo cs (k + 1) = palTo cs k ++ [(k : Int)]) := by rw [palTo_succ, if_pos hc]; exact rfl
        have hx0 : 0 < (cnt cs).getD k 0 := by rw [hcg.out]; omega
        obtain ⟨A3, n3, c3, rfl⟩ := hO.out.val
        have hn3 := hO.out.len
        have hts := Lib.hid (hT.out.set hkn hc)
        rw [← hn3] at hts hpl
        have HN3 := Lib.hid hn3
        clear hn3
        obtain ⟨arr, ha1, ha2, ha3, ha4⟩ := hT.out.ex
        have hpc : wr.cell? ⟨gp, k, none⟩ = some (.int .u8 (arr.getD k 0)) := by
          rw [cell_of_row wr gp k _ _ _ ha1]
          have h5 := nums_at (k := .u8) (xs := arr) (j := k) (by omega)
          simpa using h5
        have hpf : wr.frozen? ⟨gp, k, none⟩ = false := frozen_of_row wr gp k _ _ ha1
        clear ha1 ha2 ha3 ha4
        generalize (cnt cs).getD k 0 = x at *
        have hOs : Hid (Own .u8 5 (wr.setCell ⟨gp, k, none⟩ (.int .u8 (n3 : Int))) gp (.slice A3 n3 c3) (palTo cs k)) := hO.out.kept fun g hg => heap_setCell_other wr _ _ _ (fun e => hnp.out (by rw [hg, e]))
        have hbs : Hid (Below gp w (wr.setCell ⟨gp, k, none⟩ (.int .u8 (n3 : Int)))) := hbel.out.setCell (Nat.le_refl _) _
        have hRs : Hid (RI .i64 (wr.setCell ⟨gp, k, none⟩ (.int .u8 (n3 : Int))) (.slice (some ⟨gc, 0, none⟩) 17 cc) (cnt cs)) := hR.out.move fun g hg => heap_setCell_other wr _ _ _ (fun e => hgcp.out (by simp [Value.ownBlock] at hg; rw [hg, e]))
        have hss : Hid ((wr.setCell ⟨gp, k, none⟩ (.int .u8 (n3 : Int))).heap.size = wr.heap.size) := by show _ = _; simp [World.setCell]
        have hbox : Hid (RI .u8 ((wr.setCell ⟨gp, k, none⟩ (.int .u8 (n3 : Int))).alloc (.cells #[.int .u8 (k : Int)] 5)) (.slice (some ⟨wr.heap.size, 0, none⟩) 1 1) [(k : Int)]) := by
          have h := RI.box .u8 5 (wr.setCell ⟨gp, k, none⟩ (.int .u8 (n3 : Int))) [(k : Int)] (by simp) (0, 0)
          rw [hss.out] at h; exact h
        go_wp2_with (at_builtin; refine appR (w0 := w) gp rfl (.tmp 30) (.tmp 33) 25 5 .u8 1 rfl Try.underlying25 info5 (by omega) (.slice A3 n3 c3) (palTo cs k) [(k : Int)] (.slice (some ⟨wr.heap.size, 0, none⟩) 1 1) rfl rfl (hOs.out.alloc _) hbox.out (hbs.out.alloc (by rw [hss.out]; omega) _) (by simp; omega) (by simp; have := HN3.out; omega) ?_; intro v1 w3 h1 hb1 hg1 ha1)
        have hgs : gp < (wr.setCell ⟨gp, k, none⟩ (.int .u8 (n3 : Int))).heap.size := by rw [hss.out]; exact hgl2
        have hgs2 : gc < (wr.setCell ⟨gp, k, none⟩ (.int .u8 (n3 : Int))).heap.size := by rw [hss.out]; exact hgl1
        have hgp3 := grown_eq (below_alloc _ _) hg1 hnp.out hgs
        have hgc3 := grown_eq (below_alloc _ _) hg1 hne.out hgs2
        have hsz3 := grown_size (below_alloc _ _) hg1
        refine ⟨⟨k + 1, by omega, by go_num, by rw [hpt.out]; exact h1, ha1.ne hne.out (Nat.lt_of_lt_of_le hgs2 (below_alloc _ _).size), ha1.ne hnp.out (Nat.lt_of_lt_of_le hgs (below_alloc _ _).size), hRs.out.move fun g hg => ?_, hts.out.kept hgp3, hb1, by omega, by omega⟩, by simp [intOf]; omega⟩
        obtain rfl : gc = g := by simpa [Value.ownBlock] using hg
        exact hgc3
      · have hpt : Hid (palTo cs (k + 1) = palTo cs k) := by rw [palTo_succ, if_neg hc]; exact rfl
        have hx0 : ¬ (0 < (cnt cs).getD k 0) := by rw [hcg.out]; omega
        have hts := Lib.hid (hT.out.skip hc)
        generalize (cnt cs).getD k 0 = x at *
        go_wp2_with fail
        exact ⟨⟨k + 1, by omega, by go_num, by rw [hpt.out]; exact hO, hne, hnp, hR, hts, hbel, hgl1, hgl2⟩, by simp [intOf]; omega⟩
    · obtain rfl : k = 17 := by omega
      clear hR hne hgcp hgl1 HR
      rw [show palTo cs 17 = palK cs from rfl] at hO
      go_wp2_with fail
      have hg0 : g < w.heap.size := by have := HGP.out; omega
      have hC1 := HC.out.below (HGP.out ▸ hbel.out)
      refine (bytes_any g cs wr hC1).mono ?_
      rintro e w3 ⟨vb, rfl, hB, hb3⟩
      have hnn := Lib.hid hC1.len.out
      clear hC1
      obtain ⟨n, hn⟩ : ∃ n, n = cs.length := ⟨_, rfl⟩
      have hni : (n : Int) ≤ 32768 := by have := hnn.out; omega
      have hnj : Hid ((n : Int) = 32768) := by have := hnn.out; show _ = _; omega
      obtain ⟨gq, cq, curq, rfl, hgq, hgqb, hcq1, hcq2, -⟩ := hB.form (by have := hnn.out; omega)
      rw [← hn] at hB hcq1 ⊢
      have HN := Lib.hid hn
      clear hn hnn
      have hgqb' : gq < w3.heap.size := (Array.getElem?_eq_some_iff.1 hgqb).1
      clear hgqb
      have hpl := palTo_len cs 17
      rw [show palTo cs 17 = palK cs from rfl] at hpl
      have hO3 : Hid (Own .u8 5 w3 gp u3 (palK cs)) := hO.out.below hb3
      have hT3 : Hid (Tab w3 gp cs 17) := hT.out.kept (hb3.block _ hgl2)
      have hb4 : Hid (Below gp w w3) := hbel.out.trans (hb3.mono (by have := hbel.out.size; have := HGP.out; omega))
      have hpq : Hid (u3.ownBlock ≠ some gq) := fun e => by have := (hO.out.base _ e).2; omega
      have HB := Lib.hid (hB.mono (Nat.le_of_lt hgl2))
      have hgq' : gp < gq := by omega
      clear hO hT hbel hB hb3 hgq hnp hgl2
      go_wp2_with fail
      go_loopw [8, 9, 40] (fun _ _ i wq => ∃ k : Nat, k ≤ n ∧ i = .int .i64 k ∧ Hid (Own .u8 5 wq gp (.slice (some ⟨gq, 0, none⟩) n cq) ((cs.take k).map (plc (palK cs)) ++ cs.drop k)) ∧ Hid (w3.grownBy wq (some gq)))
        (fun _ _ i _ => n - (intOf i).toNat)
      case atStart => exact ⟨0, by omega, rfl, by rw [List.take_zero, List.map_nil, List.nil_append, List.drop_zero]; exact HB, grown_refl _ _⟩
      case round =>
        obtain ⟨k, hk, rfl, hO, hG⟩ := hrel
        by_cases hkn : k < n
        · obtain ⟨ad, ea, hx⟩ := hO.out.RI.at_ k hkn
          cases ea
          rw [adp, Nat.zero_add] at hx
          have hkl : k < cs.length := by rw [← HN.out]; exact hkn
          rw [mixed_get _ _ _ hkl] at hx
          obtain ⟨x, hxd⟩ : ∃ x, x = cs.getD k 0 := ⟨_, rfl⟩
          have hxm : x ∈ cs := by rw [hxd]; exact getD_mem hkl
          have hxs := Lib.hid (mixed_set (plc (palK cs)) cs k hkl)
          rw [← hxd] at hx hxs
          obtain ⟨hx0, hx1⟩ := HK.out x hxm
          have hgp3 : gp < w3.heap.size := by omega
          obtain ⟨hpx, hp0, hp1⟩ := (hT3.out.kept (hG.out.block _ hgp3 (by intro e; injection e with e; omega))).cell HK.out hxm
          have hfz : wr.frozen? ⟨gq, k, none⟩ = false := Own.frozen hO.out k
          clear hxm hxd hkl
          have hst := Lib.hid (hO.out.store k (plc (palK cs) x))
          generalize hpp : plc (palK cs) x = p at *
          clear hpp
          have hxn : ((x.toNat : Nat) : Int) = x := by omega
          go_wp2_with fail
          exact ⟨⟨k + 1, by omega, by go_num, by rw [← hxs.out]; exact hst.out.1, grown_trans (v := .slice (some ⟨gq, 0, none⟩) n cq) (v1 := .slice (some ⟨gq, 0, none⟩) n cq) hG.out (At.refl _ _) hst.out.2⟩, by simp [intOf]; omega⟩
        · obtain rfl : k = n := by omega
          have hOP : Hid (Own .u8 5 wr gp (.slice (some ⟨gq, 0, none⟩) k cq) (places cs)) := by
            have h := hO.out
            rw [List.take_of_length_le (by rw [← HN.out]; exact Nat.le_refl _), List.drop_of_length_le (by rw [← HN.out]; exact Nat.le_refl _), List.append_nil] at h
            exact h
          have hO4 : Hid (Own .u8 5 wr gp u3 (palK cs)) := hO3.out.kept fun g hg => hG.out.block g ((hO3.out.base g hg).2) (fun e => hpq.out (by rw [hg, e]))
          have hb5 : Hid (Below gp w wr) := hb4.out.grown hG.out (by have := hb4.out.size; have := HGP.out; omega) (fun g hg => by injection hg with hg; omega)
          have hgqr : gq < wr.heap.size := Nat.lt_of_lt_of_le hgqb' hG.out.size
          clear hO hO3 HB hT3 hb4 hG hpq hk hkn
          obtain ⟨A3, n3, c3, rfl⟩ := hO4.out.val
          have HN3 := Lib.hid hO4.out.len
          have hn3 : n3 ≤ 17 := by have := HN3.out; omega
          clear hpl
          have hwb : gp ≤ wr.heap.size := by omega
          have hob : Hid (Own .u8 5 (wr.alloc (.cells #[.int .u8 1, .int .u8 (n3 : Int)] 5)) gp (.slice (some ⟨wr.heap.size, 0, none⟩) 2 2) [1, (n3 : Int)]) :=
            Own.of_block (k := .u8) (e := 5) (xs := [1, (n3 : Int)]) (heap_alloc_new wr _) hwb (by simp)
          have hb5a := Lib.hid (hb5.out.alloc hwb (.cells #[.int .u8 1, .int .u8 (n3 : Int)] 5))
          go_wp2_with (at_builtin; refine appR (w0 := w) gp rfl (.tmp 55) (.tmp 56) 25 5 .u8 1 rfl Try.underlying25 info5 (by omega) (.slice (some ⟨wr.heap.size, 0, none⟩) 2 2) [1, (n3 : Int)] (palK cs) (.slice A3 n3 c3) rfl rfl hob.out (hO4.out.RI.alloc _) hb5a.out (by simp; omega) (by have := HN3.out; simp; omega) ?_; intro v4 w4 h4 hb4 hg4 ha4)
          obtain ⟨gh, ch, curh, rfl, hgh, hghb, hch1, hch2, -⟩ := h4.form (by simp)
          have hghl := (Array.getElem?_eq_some_iff.1 hghb).1
          clear hghb
          have hne4 : gh ≠ gq := by
            rcases ha4 with ha | ⟨b, hb, hle⟩
            · simp [Value.ownBlock] at ha; omega
            · simp [Value.ownBlock] at hb; have := (below_alloc wr (.cells #[.int .u8 1, .int .u8 (n3 : Int)] 5)).size; omega
          have hOP4 : Hid (Own .u8 5 w4 gp (.slice (some ⟨gq, 0, none⟩) k cq) (places cs)) := hOP.out.kept fun g hg => by
            obtain rfl : gq = g := by simpa [Value.ownBlock] using hg
            exact grown_eq (below_alloc wr _) hg4 (by simp [Value.ownBlock]; omega) hgqr
          have hgq4 : gq < w4.heap.size := Nat.lt_of_lt_of_le hgqr (grown_size (below_alloc wr _) hg4)
          obtain ⟨hd, hhd⟩ : ∃ hd, hd = [1, (n3 : Int)] ++ palK cs := ⟨_, rfl⟩
          have hhl : hd.length = n3 + 2 := by rw [hhd, List.length_append, ← HN3.out]; simp; omega
          rw [← hhd] at h4 hch1 ⊢
          have HHD := Lib.hid hhd
          have H4 := Lib.hid h4
          have HB4 := Lib.hid hb4
          clear hhd h4 hb4 hg4 ha4 hob hb5a hOP hO4 hb5
          refine (clone_any _ hd w4 H4.out.RI (by omega)).mono ?_
          rintro e w5 ⟨v5, rfl, hO5, hb5⟩
          have hw45 := hb5.size
          have HO5 := Lib.hid hO5
          have HB5 : Hid (Below gp w w5) := HB4.out.trans (hb5.mono (by omega))
          have hOP5 : Hid (Own .u8 5 w5 gp (.slice (some ⟨gq, 0, none⟩) k cq) (places cs)) := hOP4.out.below hb5
          have H5 : Hid (Own .u8 5 w5 gp (.slice (some ⟨gh, 0, none⟩) hd.length ch) hd) := H4.out.below hb5
          clear hO5 hb5 H4 hOP4
          go_wp2_with fail
          have hplen : Hid ((places cs).length = k) := by show _ = _; rw [HN.out]; simp [places]
          have hdi : (hd.length : Int) ≤ 1000 := by omega
          refine (putRuns_any w4.heap.size v5 hd _ (places cs) w5 HO5.out hw45 hOP5.out.RI (fun g hg e => by
            obtain rfl : gq = g := by simpa [Value.ownBlock] using hg
            have := (HO5.out.base _ e).1; omega) (fun g hg => by
            obtain rfl : gq = g := by simpa [Value.ownBlock] using hg
            omega) hdi (by rw [hplen.out]; exact hni)).mono ?_
          rintro e w6 ⟨v6, rfl, hO6, hG6, hA6⟩
          rw [hplen.out] at hO6
          have hw56 := hG6.size
          have hk6 : ∀ b, b < w4.heap.size → w6.heap[b]? = w5.heap[b]? := fun b hb => hG6.block b (by omega) (fun e => by have := (HO5.out.base _ e.symm).1; omega)
          have HB6 : Hid (Below gp w w6) := HB5.out.grown hG6 (by have := HB5.out.size; have := HGP.out; omega) (fun g hg => by have := (HO5.out.base _ hg).1; omega)
          have hOP6 : Hid (Own .u8 5 w6 gp (.slice (some ⟨gq, 0, none⟩) k cq) (places cs)) := hOP5.out.kept fun g hg => by
            obtain rfl : gq = g := by simpa [Value.ownBlock] using hg
            exact hk6 _ hgq4
          have H6 : Hid (Own .u8 5 w6 gp (.slice (some ⟨gh, 0, none⟩) hd.length ch) hd) := H5.out.kept fun g hg => by
            obtain rfl : gh = g := by simpa [Value.ownBlock] using hg
            exact hk6 _ hghl
          obtain ⟨A6, n6, c6, rfl⟩ := hO6.val
          have HO6 := Lib.hid hO6
          have HN6 := Lib.hid hO6.len
          have HC6 := Lib.hid hO6.RI.lc
          have hb6 : Hid (∀ b, (Value.slice A6 n6 c6).ownBlock = some b → w4.heap.size ≤ b ∧ b < w6.heap.size) := hO6.base
          clear hO6 hG6 hA6 hk6 HO5 hOP5 H5 HB5
          have hfz : w6.frozen? ⟨gh, 0, none⟩ = false := Own.frozen H6.out 0
          obtain ⟨ad, ea, hx⟩ := H6.out.RI.at_ 0 (by omega)
          cases ea
          rw [adp, Nat.zero_add] at hx
          have hst := H6.out.store 0 2
          have H7 := Lib.hid hst.1
          have hOP7 : Hid (Own .u8 5 (w6.setCell ⟨gh, 0, none⟩ (.int .u8 2)) gp (.slice (some ⟨gq, 0, none⟩) k cq) (places cs)) := hOP6.out.kept fun g hg => by
            obtain rfl : gq = g := by simpa [Value.ownBlock] using hg
            exact heap_setCell_other w6 _ _ _ (Ne.symm hne4)
          have HO7 : Hid (Own .u8 5 (w6.setCell ⟨gh, 0, none⟩ (.int .u8 2)) w4.heap.size (.slice A6 n6 c6) (hd ++ runsE k (places cs))) := HO6.out.kept fun g hg => heap_setCell_other w6 _ _ _ (fun e : g = gh => by have := (hb6.out _ hg).1; omega)
          have HB7 : Hid (Below gp w (w6.setCell ⟨gh, 0, none⟩ (.int .u8 2))) := HB6.out.setCell hgh _
          have hs7 : Hid ((w6.setCell ⟨gh, 0, none⟩ (.int .u8 2)).heap.size = w6.heap.size) := by show _ = _; simp [World.setCell]
          clear hst HB6 hOP6 H6 HO6
          go_wp2_with fail
          refine (width_any n3 (by omega) _).mono ?_
          rintro e w7 ⟨rfl, rfl⟩
          obtain ⟨W, hW⟩ : ∃ W, W = w6.setCell ⟨gh, 0, none⟩ (.int .u8 2) := ⟨_, rfl⟩
          rw [← hW] at H7 hOP7 HO7 HB7 hs7 ⊢
          clear hW
          have hd2 : Hid (hd.set 0 2 = 2 :: (n3 : Int) :: palK cs) := by show _ = _; rw [HHD.out]; rfl
          have hd2l : (hd.set 0 2).length = n3 + 2 := by rw [List.length_set]; exact hhl
          have hwd : Hid ((n3 : Int) ≤ 2 ^ widthN n3 ∧ ∃ t, k = t * (8 / widthN n3)) := width_fits n3 k hn3 hnj.out
          go_wp2_with fail
          have H7' : Hid (Own .u8 5 W gp (.slice (some ⟨gh, 0, none⟩) (n3 + 2) ch) (hd.set 0 2)) := by rw [← hhl]; exact H7
          have hW1 : gp ≤ W.heap.size := by have := hs7.out; omega
          have hq1 : ∀ g, (Value.slice (some ⟨gq, 0, none⟩) k cq).ownBlock = some g → (Value.slice (some ⟨gh, 0, none⟩) (n3 + 2) ch).ownBlock ≠ some g := by
            intro g hg e
            obtain rfl : gq = g := by simpa [Value.ownBlock] using hg
            exact hne4 (by simpa [Value.ownBlock] using e)
          have hq2 : Low W.heap.size (.slice (some ⟨gq, 0, none⟩) k cq) := by
            intro g hg
            obtain rfl : gq = g := by simpa [Value.ownBlock] using hg
            have := hs7.out; omega
          have hq3 : ((hd.set 0 2).length : Int) ≤ 1000 := by rw [hd2l]; omega
          have hq4 : ((places cs).length : Int) ≤ 32768 := by rw [hplen.out]; exact hni
          have hq5 : ∃ t, (places cs).length = t * (8 / widthN n3) := by rw [hplen.out]; exact hwd.out.2
          have hq6 : ∀ p ∈ places cs, 0 ≤ p ∧ p < 2 ^ widthN n3 := fun p hp => places_fit HK.out HN3.out hwd.out.1 p hp
          refine (putBits_any gp (.slice (some ⟨gh, 0, none⟩) (n3 + 2) ch) (hd.set 0 2) (.slice (some ⟨gq, 0, none⟩) k cq) (places cs) (widthN n3) W H7'.out hW1 hOP7.out.RI hq1 hq2 hq3 hq4 (widthN_cases _) hq5 hq6).mono ?_
          clear hq1 hq2 hq3 hq4 hq5 hq6 H7'
          rintro e w8 ⟨v8, rfl, hO8, hG8, hA8⟩
          have HO9 : Hid (Own .u8 5 w8 w4.heap.size (.slice A6 n6 c6) (hd ++ runsE k (places cs))) := HO7.out.kept fun g hg => hG8.block _ (by have := (hb6.out _ hg).2; have := hs7.out; omega) (fun e => by
            have e2 : g = gh := by simpa [Value.ownBlock] using e
            have := (hb6.out _ hg).1; omega)
          have HB9 : Hid (Below gp w w8) := HB7.out.grown hG8 (by have := HGP.out; have := hs7.out; omega) (fun g hg => by
            obtain rfl : gh = g := by simpa [Value.ownBlock] using hg
            exact hgh)
          obtain ⟨A8, n8, c8, rfl⟩ := hO8.val
          have HO8 := Lib.hid hO8
          have HN8 := Lib.hid hO8.len
          have HC8 := Lib.hid hO8.RI.lc
          clear hO8 hG8 hA8 HO7 hOP7 H7 HB7
          have hc6 := HC6.out
          have hc8 := HC8.out
          have e6 : encR cs = hd ++ runsE k (places cs) := by unfold encR; rw [HHD.out, HN3.out, HN.out]; simp
          have e8 : encB cs = hd.set 0 2 ++ bitsE (widthN n3) (places cs).length (places cs) := by unfold encB; rw [hd2.out, HN3.out, hplen.out, HN.out]; rfl
          have hE6 : Hid ((hd ++ runsE k (places cs)).length ≤ (hd.set 0 2 ++ bitsE (widthN n3) (places cs).length (places cs)).length → enc cs = hd ++ runsE k (places cs)) := fun h => by
            unfold enc; rw [e6, e8, if_pos h]
          have hE8 : Hid (¬ (hd ++ runsE k (places cs)).length ≤ (hd.set 0 2 ++ bitsE (widthN n3) (places cs).length (places cs)).length → enc cs = hd.set 0 2 ++ bitsE (widthN n3) (places cs).length (places cs)) := fun h => by
            unfold enc; rw [e6, e8, if_neg h]
          clear e6 e8
          by_cases hle : n6 ≤ n8
          · go_wp2_with fail
            go_ret
            refine ⟨_, rfl, ?_, ?_⟩
            · rw [HGP.out, hE6.out (by rw [← HN6.out, ← HN8.out]; exact hle)]
              exact HO9.out.mono (by omega)
            · rw [HGP.out]; exact HB9.out
          · go_wp2_with fail
            go_ret
            refine ⟨_, rfl, ?_, ?_⟩
            · rw [HGP.out, hE8.out (by rw [← HN6.out, ← HN8.out]; exact hle)]
              exact HO8.out
            · rw [HGP.out]; exact HB9.out
end Go.Proofs.Ytpakcmcoafbgkaa.Cx
