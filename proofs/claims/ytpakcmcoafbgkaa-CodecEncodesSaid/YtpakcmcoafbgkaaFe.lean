/- 'codecEncodes' holds: for every input the law returns true, and the input reads as it did. No condition. -/
import Derived.Test.YtpakcmcoafbgkaaDl
import Derived.Test.YtpakcmcoafbgkaaRows
import Derived.WalkKit
import Derived.ProofKit
import Derived.OpenShut
import Derived.ShutString
import Derived.ChangeOld
import Derived.Below
import Derived.Deep.SlicePairs
namespace Go.Proofs.Ytpakcmcoafbgkaa.codecEncodes
open Go.ChangeShapes Go.WideShapes Go.ChangeAt Go.RowKit Go.Deep Cx
set_option linter.unusedVariables false
theorem own : ownKnob Try.prog.godebug = none := by kernel_rfl
theorem laidOut : laidOutB Try.prog = true := by kernel_rfl
theorem cells45 : Try.prog.cellsOf 45 = 2 := by kernel_rfl
theorem cells3 : Try.prog.cellsOf 3 = 1 := by kernel_rfl
set_option maxRecDepth 100000 in
theorem lifted (os : Os) (started : os.Started) (H : Type) (enc : TypeId × Value → H) :
    ReturnsInHanded {} Try.checked os 3 .any (Rows.codecEncodesSpec.pre6 enc Try.prog Try.f3 Rows.codecEncodesRow.domain false) (Rows.codecEncodesSpec.post enc Try.prog Try.f3 false true false false) := by
  refine returnsInHanded_of_change (C := Try.checked) own started (by kernel_rfl) Try.func3
    (ChangeSpec.witness6 (enc := enc) (C := Try.checked) false ⟨#[], #[.slice none 0 0, .slice none 0 0], []⟩ 8 (by kernel_rfl) (by kernel_rfl) (by kernel_rfl) (by kernel_rfl)) ?_
  intro W base args ds gs before hval0 hW hcnd _
  have hval : ∀ (j : Nat) t v, Try.f3.params[j]? = some t → args[j]? = some v → Value.okWide Try.prog W .any base t v := hval0
  have hW' := hW
  obtain ⟨p, q, hA0, hV, rfl, hfz, hnd⟩ := hW
  have hA : DataW.TrodAll enc Try.prog W 0 (fun _ => true) true Try.f3.params.toList args.toList ds p := hA0
  rw [Try.params3] at hA hval
  obtain ⟨v0, vs0, d0, ds0, p0, q0, hargs, rfl, rfl, h0, r0⟩ := trodAll_cons hA
  obtain ⟨v1, vs1, d1, ds1, p1, q1, rfl, rfl, rfl, h1, r1⟩ := trodAll_cons r0
  obtain ⟨rfl, rfl, rfl⟩ := trodAll_nil r1
  obtain rfl : args = #[v0, v1] := by cases args; simp_all
  obtain ⟨rfl, rfl⟩ := trodVars_none hV
  obtain ⟨a0, len0, cap0, rfl⟩ := okWide_slice Try.underlying22 (hval 0 22 v0 rfl rfl)
  have k0 := h0
  have lt0 : ∀ x ∈ p0, x.block < W.heap.size := by obtain ⟨m, hm⟩ := k0; exact DataW.trod_lt m _ _ _ hm
  have w0 : RP W a0 len0 cap0 := by
    obtain ⟨fuel, hf⟩ := h0
    rcases open_slice_pairs Try.underlying22 Try.underlying45 cells45 rfl rfl cells3 cells3 hf with ⟨hc, _⟩ | ⟨a, l, c, m, k, V0, V1, D0, D1, P0, P1, hc, _, hl, hm, hmm, _, hall⟩
    · simp [Value.cells] at hc
      obtain ⟨rfl, rfl, rfl⟩ := hc
      exact ⟨Nat.le_refl _, by omega, fun j hj => absurd hj (Nat.not_lt_zero _)⟩
    · simp [Value.cells] at hc
      obtain ⟨rfl, rfl, rfl⟩ := hc
      simp only [if_true] at hmm
      subst hmm
      refine ⟨hl, by simpa [maxLen] using hm, fun j hj => ?_⟩
      obtain ⟨c0, c1, t0, t1⟩ := hall j (by omega)
      obtain ⟨x, e0, _, wf0⟩ := DataW.trod_int Try.underlying3 t0
      obtain ⟨y, e1, _, wf1⟩ := DataW.trod_int Try.underlying3 t1
      simp only [List.cons.injEq, and_true] at e0 e1
      rw [e0] at c0
      rw [e1, add_succ] at c1
      have e2 : (⟨a.block, a.off + (j * 2 + 1), none⟩ : Addr) = ⟨(a.add (j * 2)).block, (a.add (j * 2)).off + 1, none⟩ := by
        unfold Addr.add; split <;> simp_all [Nat.add_assoc]
      rw [e2] at c1
      exact ⟨a, x, y, rfl, c0, c1, (bounds_i64 wf0).1, (bounds_i64 wf0).2, (bounds_i64 wf1).1, (bounds_i64 wf1).2⟩
  obtain ⟨a1, len1, cap1, rfl⟩ := okWide_slice Try.underlying23 (hval 1 23 v1 rfl rfl)
  have k1 := h1
  have lt1 : ∀ x ∈ p1, x.block < W.heap.size := by obtain ⟨m, hm⟩ := k1; exact DataW.trod_lt m _ _ _ hm
  obtain ⟨z1, w1, b1⟩ : ∃ zs, RI .i64 W (.slice a1 len1 cap1) zs ∧ ∀ x ∈ zs, (Lit.int .i64 x).wf = true := by
    obtain ⟨fuel, hf⟩ := h1
    rcases open_ints Try.underlying23 Try.underlying3 (by kernel_rfl) hf with ⟨hcs, _⟩ | ⟨x, l, c, zs, hcs, _, hl, hm, hz, _, hcell, hwz⟩
    · simp [Value.cells] at hcs
      obtain ⟨rfl, rfl, rfl⟩ := hcs
      exact ⟨[], RI.nil _ _, fun x hx => by cases hx⟩
    · simp [Value.cells] at hcs
      obtain ⟨rfl, rfl, rfl⟩ := hcs
      have hz' : zs.length = cap1 := by simpa using hz
      have ht : (zs.take len1).length = len1 := by rw [List.length_take]; omega
      refine ⟨zs.take len1, ⟨_, cap1, by rw [ht], by rw [ht]; exact hl, by simpa [maxLen] using hm, fun j hj => ⟨_, rfl, ?_⟩⟩, fun y hy => hwz y (List.mem_of_mem_take hy)⟩
      rw [ht] at hj
      rw [hcell j (by omega), List.getD_eq_getElem?_getD, List.getD_eq_getElem?_getD, List.getElem?_take_of_lt hj]
  clear hA0 hval0
  refine (encodes_any a0 len0 cap0 (.slice a1 len1 cap1) z1 W w0 w1 (fun j hj => bounds_i64 (b1 _ (getD_mem hj)))).mono fun e W' ⟨he, bel⟩ => ?_
  subst he
  exact ⟨_, rfl, _, _, _, [], _, [], hW', trodAll_mk1 (shut_bool Try.underlying4 _), (trodAll_cons_mk (Below.trod laidOut (by kernel_rfl) (of_decide_eq_true (by kernel_rfl)) k0 bel lt0) (trodAll_cons_mk (Below.trod laidOut (by kernel_rfl) (of_decide_eq_true (by kernel_rfl)) k1 bel lt1) trodAll_mk0)), rfl, bel.frame _, fun h => by cases h⟩
theorem over : Rows.codecEncodesRow.holds Try.pinned (OpenSpec.ofChange Rows.codecEncodesSpec) :=
  OpenClaim.holds_of_wide 3 Try.f3 rfl rfl rfl rfl rfl rfl rfl ⟨rfl, rfl, rfl, rfl, rfl⟩ rfl rfl rfl rfl rfl (by kernel_rfl) Try.func3 (by kernel_rfl)
    (of_decide_eq_true (by kernel_rfl)) (by unfold Func.isWrapper; first | (rw [if_pos (by decide +kernel)]; kernel_rfl) | (rw [if_neg (by decide +kernel)]; exact ⟨rfl, rfl⟩))
    (fun os started H enc _ => lifted os started H enc)
theorem holds : Rows.CodecEncodesSaid := over
#print axioms holds
end Go.Proofs.Ytpakcmcoafbgkaa.codecEncodes
