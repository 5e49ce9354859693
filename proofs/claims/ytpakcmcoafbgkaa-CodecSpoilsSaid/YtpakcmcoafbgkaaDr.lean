/- append(v, make([]T, k)...) on a row of the call's own, of numbers. -/
import Derived.Test.YtpakcmcoafbgkaaCa
import Derived.Lib.AppendZerosOnto
namespace Go.Proofs.Ytpakcmcoafbgkaa.Cx
open Go.RowKit
section
variable {P : Program}
theorem zeroCells_nums (k : IntKind) (m : Nat) : Builtin.zeroCells #[.int k 0] m = (nums k (List.replicate m 0)).toArray := by
  apply Array.ext
  · simp [Builtin.zeroCells, nums]
  · intro i h1 h2
    simp only [Builtin.zeroCells, List.size_toArray, List.length_cons, List.length_nil, Array.getElem_map, List.getElem_toArray, nums, List.map_replicate, List.getElem_replicate]
    have : (Array.range (m * (0 + 1)))[i]'(by simpa [Builtin.zeroCells] using h1) % (0 + 1) = 0 := Nat.mod_one _
    rw [this]; rfl
theorem run_append_zeros {w0 W : World} (base : Nat) (t tn ty e : TypeId) (k kq kn : IntKind) (bytes : Nat) (ht : P.underlying t = some (.slice e)) (htn : P.underlying tn = some (.int kn)) (hinfo : (P.info? e).map (fun i => (i.zero, i.size, i.bytes)) = some (some (.int k 0), 1, bytes)) (hb0 : 0 < bytes)
    (g n cap : Nat) (xs : List Int) (m : Nat) (hm : 0 < m) (HO : Own k e W base (.slice (some ⟨g, 0, none⟩) n cap) xs) (HB : Below base w0 W) (hbase : base ≤ W.heap.size) (hl : (xs.length + m) * bytes ≤ 140737488355328) :
    ∃ v1 w1, (Builtin.append_ #[t, tn] ty #[.slice (some ⟨g, 0, none⟩) n cap, .int kq m]).run P W = .ok v1 w1 ∧ Own k e w1 base v1 (xs ++ List.replicate m 0) ∧ Below base w0 w1 ∧ W.grownBy w1 (some g) := by
  obtain ⟨i0, hi, hzz⟩ := Option.map_eq_some_iff.1 hinfo
  simp only [Prod.mk.injEq] at hzz
  obtain ⟨hz0, hz1, hz2⟩ := hzz
  have hlen : xs.length + m ≤ 140737488355328 := Nat.le_trans (Nat.le_mul_of_pos_right _ hb0) hl
  have hn : n = xs.length := HO.len
  subst hn
  obtain ⟨hown1, hown2⟩ := HO
  rcases hown2 with ⟨h0, _⟩ | ⟨g', cap', cur, he, hbg, hg, hnc, hcm, hcs, htake⟩
  · cases h0
  injection he with e1 e2 e3
  injection e1 with e1
  injection e1 with e1
  subst e1; subst e3
  rw [Nat.mul_one] at hcs htake
  have hmb : m * bytes ≤ 281474976710656 := by
    have : m * bytes ≤ (xs.length + m) * bytes := Nat.mul_le_mul_right _ (by omega)
    omega
  have hone : (nums k (List.replicate m 0)).length = m := by simp [nums]
  by_cases hroom : xs.length + m ≤ cap
  · have hw : IntKind.i64.wrap (m : Int) = m := by rw [IntKind.wrap_i64]; omega
    have hneg : ¬ ((m : Int) < 0) := by omega
    have hbig : ¬ (281474976710656 < (m : Int) * (i0.bytes : Int)) := by rw [hz2, ← Int.natCast_mul]; omega
    have hst := run_storeCells_at P g xs.length e (nums k (List.replicate m 0)) 0 cur W hg (by rw [hone]; omega) (nums_one _ _)
    have hm0 : m ≠ 0 := by omega
    simp only [Nat.add_zero] at hst
    refine ⟨.slice (some ⟨g, 0, none⟩) (xs.length + m) cap, W.setRow g (cur.toList.take xs.length ++ nums k (List.replicate m 0) ++ cur.toList.drop (xs.length + (nums k (List.replicate m 0)).length)).toArray, ?_, ?_, ?_, ?_⟩
    · have hz : Builtin.zeroCells #[.int k 0] m = (nums k (List.replicate m 0)).toArray := zeroCells_nums k m
      simp [Builtin.append_, run_underlying ht, run_underlying htn, sizeOf, typeInfo, zeroValue, hi, hz0, hz1, asInt, asIntOf, hw, hneg, hbig, hroom, hm0, Addr.add_lit, Value.cells, hz, hst]
    · refine ⟨by simp [nums], .inr ⟨g, cap, _, by simp, hbg, setRow_heap W g cur _ e _ hg, by simp; omega, hcm, ?_, ?_⟩⟩
      · simp only [List.size_toArray, List.length_append, List.length_take, List.length_drop, Array.length_toList, hone, Nat.mul_one]
        omega
      · rw [htake, nums_append, Nat.mul_one, List.length_append, List.length_replicate]
        have hl2 : (nums k xs ++ nums k (List.replicate m 0)).length = xs.length + m := by rw [List.length_append, nums_length, hone]
        rw [← hl2]
        exact List.take_left
    · have hgr : W.grownBy (W.setRow g (cur.toList.take xs.length ++ nums k (List.replicate m 0) ++ cur.toList.drop (xs.length + (nums k (List.replicate m 0)).length)).toArray) (some g) :=
        ⟨rfl, rfl, rfl, by simp, fun k _ hk => setRow_other W g k _ (fun e => hk (by rw [e]))⟩
      exact HB.grown hgr hbase (fun g' hg' => by injection hg' with hg'; omega)
    · exact ⟨rfl, rfl, rfl, by simp, fun k _ hk => setRow_other W g k _ (fun e => hk (by rw [e]))⟩
  · have hge := grownCap_ge W (xs.length + m) cap e
    have hcm' : grownCap W (xs.length + m) cap e ≤ maxLen := grownCap_le_maxLen W (xs.length + m) cap e (by simp only [maxLen]; omega)
    have hold : (Builtin.firstCells i0.size xs.length (.slice (some ⟨g, 0, none⟩) xs.length cap)).run P W.drew = .ok (nums k xs).toArray W.drew :=
      run_firstCells_some W.drew i0.size xs.length ⟨g, 0, none⟩ xs.length cap (nums k xs) (by rw [hz1, nums_length]; omega) (fun j u hu => World.ownsRow.cells (w := W.drew) (base := base) (e := e) (size := 1) (v := .slice (some ⟨g, 0, none⟩) xs.length cap) (n := xs.length) ⟨hown1, .inr ⟨g, cap, cur, rfl, hbg, hg, hnc, hcm, by rw [Nat.mul_one]; exact hcs, by rw [Nat.mul_one]; exact htake⟩⟩ rfl j u hu)
    have hr := Lib.run_append_grow_zeros (P := P) W t tn ty e i0 (.int k 0) kq kn ht htn hi hz0 (some ⟨g, 0, none⟩) xs.length cap (nums k xs) hold m hm (by omega) (by omega) (by omega) (by rw [hz2]; exact hmb) (growslice_fits (by omega) (by rw [hz2]; exact hl))
    rw [show (Value.int k 0).cells = #[.int k 0] from rfl, zeroCells_nums, zeroCells_nums] at hr
    have hgr : ∀ row, W.grownBy (W.drew.alloc (.cells ((nums k xs).toArray ++ (nums k (List.replicate m 0)).toArray ++ (nums k (List.replicate (grownCap W (xs.length + m) cap e - (xs.length + m)) 0)).toArray) e)) row :=
      fun row => ⟨rfl, rfl, rfl, by simp, fun k hk _ => (below_drew_alloc W _).block k hk⟩
    refine ⟨_, _, hr, ⟨by simp [nums], .inr ⟨W.heap.size, _, _, by rw [List.length_append, List.length_replicate], hbase, heap_alloc_new W.drew _, by rw [List.length_append, List.length_replicate]; exact hge, hcm', ?_, ?_⟩⟩, HB.grown (hgr none) hbase (fun g' hg' => by cases hg'), hgr _⟩
    · simp only [Array.size_append, List.size_toArray, nums_length, List.length_replicate]
      omega
    · simp only [Array.toList_append]
      rw [nums_append, List.length_append, List.length_replicate, Nat.mul_one]
      have hl2 : (nums k xs ++ nums k (List.replicate m 0)).length = xs.length + m := by rw [List.length_append, nums_length, hone]
      rw [← hl2]
      exact List.take_left
end
end Go.Proofs.Ytpakcmcoafbgkaa.Cx
