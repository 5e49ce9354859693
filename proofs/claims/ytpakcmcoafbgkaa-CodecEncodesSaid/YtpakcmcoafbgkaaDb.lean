/- The examples that the laws look at, plainly; strings of numbers. -/
import Derived.Test.YtpakcmcoafbgkaaDa
import Derived.Test.YtpakcmcoafbgkaaCa
import Derived.Laws.IdiomStrings
import Derived.Lib.BufferRead
namespace Go.Proofs.Ytpakcmcoafbgkaa.Cx
open Go.RowKit
/-- The string of numbers. -/
def strB (xs : List Int) : ByteArray := ⟨(xs.map fun x => UInt8.ofNat x.toNat).toArray⟩
theorem strB_inj {xs ys : List Int} (hx : Bytes xs) (hy : Bytes ys) (h : strB xs = strB ys) : xs = ys := by
  have h1 : (xs.map fun x => UInt8.ofNat x.toNat) = ys.map fun x => UInt8.ofNat x.toNat := by
    have := congrArg (fun b : ByteArray => b.data.toList) h
    simpa [strB] using this
  have h2 := congrArg (List.map fun b : UInt8 => (b.toNat : Int)) h1
  have key : ∀ l : List Int, Bytes l → (l.map fun x => UInt8.ofNat x.toNat).map (fun b : UInt8 => (b.toNat : Int)) = l := by
    intro l hl
    rw [List.map_map]
    conv => rhs; rw [← List.map_id l]
    refine List.map_congr_left fun x hx => ?_
    obtain ⟨h0, h1⟩ := hl x hx
    simp only [Function.comp_apply, UInt8.toNat_ofNat', id_eq]
    omega
  rw [key xs hx, key ys hy] at h2
  exact h2
theorem run_str {P : Program} (src dst e : TypeId) (hs : P.underlying src = some (.slice e)) (he : P.underlying e = some (.int .u8)) (hd : P.underlying dst = some .string) (w : World) (v : Value) (xs : List Int) (h : RI .u8 w v xs) (hb : Bytes xs) :
    (convert src dst v).run P w = .ok (.string (strB xs)) w := by
  obtain ⟨A, c, rfl, h1, h2, h3⟩ := h
  rcases A with _ | a
  · have h0 : xs = [] := by
      rcases xs with _ | ⟨x, xs⟩
      · rfl
      · obtain ⟨ad, h, _⟩ := h3 0 (by simp)
        cases h
    subst h0
    exact Lib.run_convert_nil_bytes w src dst e c hs he hd
  · have h4 := run_convert_bytes_back (P := P) w src dst e a c (xs.map fun x => UInt8.ofNat x.toNat) hs he hd (fun j hj => by
      have hj' : j < xs.length := by simpa using hj
      obtain ⟨ad, ea, hc⟩ := h3 j hj'
      cases ea
      rw [hc, List.getD_eq_getElem?_getD, List.getElem?_eq_getElem hj']
      obtain ⟨p0, p1⟩ := hb _ (List.getElem_mem hj')
      simp only [List.getElem_map, UInt8.toNat_ofNat', Option.getD_some, Option.some.injEq, Value.int.injEq, true_and]
      omega)
    rw [List.length_map] at h4
    exact h4
/-! All cells 0. -/
theorem palTo_zero (n : Nat) (hn : 0 < n) : ∀ m, palTo (List.replicate n 0) (m + 1) = [0]
  | 0 => by
    rw [palTo_succ, if_pos (by rw [Int.natCast_zero, List.count_replicate_self]; exact hn)]; rfl
  | m + 1 => by
    rw [palTo_succ, if_neg, palTo_zero n hn m]
    rw [List.count_replicate, if_neg]
    · omega
    · simp; omega
theorem places_zero (n : Nat) (hn : 0 < n) : places (List.replicate n 0) = List.replicate n 0 := by
  have hp : palK (List.replicate n 0) = [0] := palTo_zero n hn 16
  unfold places
  rw [List.map_replicate, hp]
  rw [plc_eq (l := [0]) (x := 0) (i := 0) (fun i j hij hj => by simp at hj; omega) ⟨by omega, by simp, rfl⟩]
theorem runLen_zero (n : Nat) : runLen (List.replicate (n + 1) (0 : Int)) = n + 1 := by
  show (((List.replicate n (0 : Int)).takeWhile fun y => y == 0).length) + 1 = n + 1
  rw [List.takeWhile_replicate]
  simp
theorem encR_zero (n : Nat) : encR (List.replicate (n + 1) 0) = 1 :: 1 :: 0 :: (putN (n + 1) ++ [0]) := by
  unfold encR
  have hp : palK (List.replicate (n + 1) 0) = [0] := palTo_zero (n + 1) (by omega) 16
  rw [places_zero (n + 1) (by omega), hp, List.length_replicate]
  have hr := runLen_zero n
  have e : runsE (n + 1) (List.replicate (n + 1) 0) = putN (n + 1) ++ [0] := by
    show putN (runLen (List.replicate (n + 1) (0 : Int))) ++ [0] ++ runsE n ((List.replicate (n + 1) (0 : Int)).drop (runLen (List.replicate (n + 1) (0 : Int)))) = _
    rw [hr, List.drop_of_length_le (by rw [List.length_replicate]; exact Nat.le_refl _)]
    cases n <;> simp [runsE]
  rw [e]; rfl
theorem putN_32768 (n : Nat) (h : n = 32768) : putN n = [128, 128, 2] := by
  subst h
  rw [putN_ge (by decide), putN_ge (by decide), putN_lt (by decide)]; rfl
theorem encR_z (cs : List Int) (n : Nat) (hn : n + 1 = 32768) (hc : cs = List.replicate (n + 1) 0) : encR cs = [1, 1, 0, 128, 128, 2, 0] := by
  rw [hc, encR_zero, putN_32768 _ hn]; rfl
theorem enc_z (cs : List Int) (n : Nat) (hn : n + 1 = 32768) (hc : cs = List.replicate (n + 1) 0) : enc cs = [1, 1, 0, 128, 128, 2, 0] := by
  have hk : ∀ x ∈ cs, 0 ≤ x ∧ x ≤ 16 := fun x hx => by rw [hc] at hx; obtain rfl := List.eq_of_mem_replicate hx; omega
  have hl : (cs.length : Int) = 32768 := by rw [hc, List.length_replicate]; omega
  have hb : 4096 ≤ (encB cs).length := by
    unfold encB
    rw [List.length_cons, List.length_cons, List.length_append, (bits_cs hk hl).2]
    have : 1 ≤ widthN (palK cs).length := by unfold widthN; split; omega; split; omega; split <;> omega
    omega
  have hr := encR_z cs n hn hc
  unfold enc
  rw [if_pos (by rw [hr]; simp only [List.length_cons, List.length_nil]; omega), hr]
theorem ex_short : dec [2, 1, 3] = .error 3 := by
  have h := dec_head 2 (.inr rfl) [3] [] (fun i hi => by
    obtain rfl : i = 0 := by simp at hi; omega
    exact ⟨by simp, .inl rfl⟩) (by simp) (by simp)
  refine Eq.trans h ?_
  unfold formD
  rw [if_neg (by decide), if_pos]
  show 0 < 4096 * widthN 1
  rw [show widthN 1 = 1 from rfl]; omega
theorem ex_form3 : dec [3, 1, 0, 0] = .error 4 := by
  unfold dec
  rw [if_neg (by simp), if_neg]
  rintro ⟨h | h, _⟩ <;> simp at h
theorem ex_form5 : dec [1, 2, 5, 5, 0] = .error 4 := by
  unfold dec
  rw [if_neg (by simp), if_pos ⟨.inl rfl, by simp, by simp⟩, if_neg (by simp), if_neg]
  intro h
  have := (h 1 (by simp)).2
  simp at this
end Go.Proofs.Ytpakcmcoafbgkaa.Cx
