/- What was encoded is decoded to what it was: plainly. -/
import Derived.Test.YtpakcmcoafbgkaaCr
namespace Go.Proofs.Ytpakcmcoafbgkaa.Cx
open Go.RowKit
theorem getV_stopE (g i : Nat) (acc x r : Int) (xs : List Int) (hx : x < 128) (h : acc + x % 128 * 128 ^ i = r) (hr : r ≤ 2147483647) : getV (g + 1) i acc (x :: xs) = (r, (i : Int) + 1) := by
  unfold getV; rw [if_pos hx, if_neg (by omega), h]
theorem getV_onE (g i : Nat) (acc x r : Int) (xs : List Int) (hx : ¬ x < 128) (h : acc + x % 128 * 128 ^ i = r) : getV (g + 1) i acc (x :: xs) = getV g (i + 1) r xs := by
  rw [getV, if_neg hx, h]
/-- Numbers. -/
theorem getN_putN (n : Nat) (hn : n < 2097152) (t : List Int) : getN (putN n ++ t) = ((n : Int), ((putN n).length : Int)) := by
  unfold getN
  by_cases h1 : n < 128
  · rw [putN_lt h1]
    exact getV_stopE 4 0 0 _ _ _ (by omega) (by omega) (by omega)
  · rw [putN_ge h1]
    by_cases h2 : n / 128 < 128
    · rw [putN_lt h2]
      refine (getV_onE 4 0 0 _ ((n % 128 : Nat) : Int) _ (by omega) (by omega)).trans ?_
      exact getV_stopE 3 1 _ _ _ _ (by omega) (by omega) (by omega)
    · rw [putN_ge h2, putN_lt (by omega)]
      refine (getV_onE 4 0 0 _ ((n % 128 : Nat) : Int) _ (by omega) (by omega)).trans ?_
      refine (getV_onE 3 1 _ _ ((n % 128 + n / 128 % 128 * 128 : Nat) : Int) _ (by omega) (by omega)).trans ?_
      exact getV_stopE 2 2 _ _ _ _ (by omega) (by omega) (by omega)
theorem putN_pos (n : Nat) : 0 < (putN n).length := by
  by_cases h : n < 128
  · rw [putN_lt h]; simp
  · rw [putN_ge h]; simp
/-- The first run of cells. -/
theorem run_take (x : Int) (xs : List Int) : (x :: xs).take (runLen (x :: xs)) = List.replicate (runLen (x :: xs)) x := by
  have h : ∀ l : List Int, l.take (l.takeWhile fun y => y == x).length = List.replicate (l.takeWhile fun y => y == x).length x := by
    intro l
    induction l with
    | nil => rfl
    | cons y l ih =>
      by_cases hy : y = x
      · subst hy
        rw [List.takeWhile_cons_of_pos (by simp), List.length_cons, List.take_succ_cons, List.replicate_succ, ih]
      · rw [List.takeWhile_cons_of_neg (by simpa using hy)]; rfl
  show (x :: xs).take ((xs.takeWhile fun y => y == x).length + 1) = List.replicate ((xs.takeWhile fun y => y == x).length + 1) x
  rw [List.take_succ_cons, List.replicate_succ, h]
/-- Form 1 is read back. -/
theorem runsD_runsE (pal t : List Int) : ∀ (m f g : Nat) (ps out : List Int), ps.length ≤ m → ps.length ≤ f → ps.length ≤ g → (out.length : Int) + ps.length = 32768 → (∀ p ∈ ps, 0 ≤ p ∧ p < pal.length) →
    runsD f (runsE g ps ++ t) pal out = .ok (t, out ++ ps.map fun p => pal.getD p.toNat 0)
  | _, f, g, [], out, _, _, _, ho, _ => by
    have e : runsE g [] = [] := by cases g <;> rfl
    rw [e, runsD_stop _ _ _ _ (by simp at ho; omega)]; simp
  | 0, _, _, p :: ps, _, h, _, _, _, _ => by simp at h
  | m + 1, f, g, p :: ps, out, hm, hf, hg, ho, hp => by
    obtain ⟨f, rfl⟩ : ∃ f', f = f' + 1 := ⟨f - 1, by simp at hf; omega⟩
    obtain ⟨g, rfl⟩ : ∃ g', g = g' + 1 := ⟨g - 1, by simp at hg; omega⟩
    have hr1 := runLen_pos (p :: ps)
    have hr2 := runLen_le p ps
    have hrt := run_take p ps
    have htd := List.take_append_drop (runLen (p :: ps)) (p :: ps)
    have hdl : ((p :: ps).drop (runLen (p :: ps))).length = (p :: ps).length - runLen (p :: ps) := List.length_drop
    have he : runsE (g + 1) (p :: ps) = putN (runLen (p :: ps)) ++ [p] ++ runsE g ((p :: ps).drop (runLen (p :: ps))) := rfl
    have hl : (p :: ps).length = ps.length + 1 := rfl
    obtain ⟨p0, p1⟩ := hp p (by simp)
    rw [he]
    generalize runLen (p :: ps) = r at *
    have hmp : out ++ (p :: ps).map (fun p => pal.getD p.toNat 0) = (out ++ List.replicate r (pal.getD p.toNat 0)) ++ ((p :: ps).drop r).map fun p => pal.getD p.toNat 0 := by
      conv => lhs; rw [← htd, hrt]
      rw [List.map_append, List.map_replicate, List.append_assoc]
    rw [hmp]
    have hg1 : getN (putN r ++ [p] ++ runsE g ((p :: ps).drop r) ++ t) = ((r : Int), ((putN r).length : Int)) := by
      rw [List.append_assoc, List.append_assoc]; exact getN_putN r (by omega) _
    have hdr : (putN r ++ [p] ++ runsE g ((p :: ps).drop r) ++ t).drop (putN r).length = p :: (runsE g ((p :: ps).drop r) ++ t) := by
      rw [List.append_assoc, List.append_assoc, List.drop_left]; rfl
    have hln : ¬ (putN r ++ [p] ++ runsE g ((p :: ps).drop r) ++ t).length = 0 := by
      have := putN_pos r
      simp only [List.length_append]; omega
    rw [runsD, if_pos (by omega), if_neg hln, hg1]
    simp only [Int.toNat_natCast]
    rw [hdr, if_pos (by constructor <;> omega), if_neg (by simp), if_pos (by simpa using p1)]
    simp only [List.drop_succ_cons, List.drop_zero, List.getD_cons_zero]
    refine runsD_runsE pal t m f g _ _ (by omega) (by omega) (by omega) ?_ (fun q hq => hp q (List.mem_of_mem_drop hq))
    rw [List.length_append, List.length_replicate]; omega
end Go.Proofs.Ytpakcmcoafbgkaa.Cx
