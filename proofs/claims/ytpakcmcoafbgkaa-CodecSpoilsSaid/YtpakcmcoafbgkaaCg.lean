/- How many bits a place has: the program's width and the reference's. -/
import Derived.Test.YtpakcmcoafbgkaaCd
namespace Go.Proofs.Ytpakcmcoafbgkaa.Cx
open Go.RowKit
theorem widthN_1 {n : Nat} (h : n ≤ 2) : widthN n = 1 := by unfold widthN; rw [if_pos h]
theorem widthN_2 {n : Nat} (h1 : 2 < n) (h : n ≤ 4) : widthN n = 2 := by unfold widthN; rw [if_neg (by omega), if_pos h]
theorem widthN_4 {n : Nat} (h1 : 4 < n) (h : n ≤ 16) : widthN n = 4 := by unfold widthN; rw [if_neg (by omega), if_neg (by omega), if_pos h]
theorem widthN_8 {n : Nat} (h1 : 16 < n) : widthN n = 8 := by unfold widthN; rw [if_neg (by omega), if_neg (by omega), if_neg (by omega)]
set_option maxHeartbeats 1600000 in
theorem width_any (n : Nat) (hn : n ≤ 100) (w : World) : Calls Try.prog 25 #[.int .i64 n] w fun e w' => e = .returned (.int .i64 (widthN n)) ∧ w = w' := by
  by_cases h1 : n ≤ 2
  · rw [widthN_1 h1]
    go_enter Try.func25, Try.ntmps25
    go_wp2_with fail
    refine wp_loop_rounds 1 ?_
    repeat any_goals (rw [rounds_succ]; go_wp2)
    all_goals (go_ret; exact ⟨rfl, rfl⟩)
  by_cases h2 : n ≤ 4
  · rw [widthN_2 (by omega) h2]
    go_enter Try.func25, Try.ntmps25
    go_wp2_with fail
    refine wp_loop_rounds 2 ?_
    repeat any_goals (rw [rounds_succ]; go_wp2)
    all_goals (go_ret; exact ⟨rfl, rfl⟩)
  by_cases h3 : n ≤ 16
  · rw [widthN_4 (by omega) h3]
    go_enter Try.func25, Try.ntmps25
    go_wp2_with fail
    refine wp_loop_rounds 3 ?_
    repeat any_goals (rw [rounds_succ]; go_wp2)
    all_goals (go_ret; exact ⟨rfl, rfl⟩)
  · rw [widthN_8 (by omega)]
    go_enter Try.func25, Try.ntmps25
    go_wp2_with fail
    refine wp_loop_rounds 4 ?_
    repeat any_goals (rw [rounds_succ]; go_wp2)
    all_goals (go_ret; exact ⟨rfl, rfl⟩)

set_option maxHeartbeats 1600000 in
theorem rwidth_any (n : Nat) (hn : n ≤ 100) (w : World) : Calls Try.prog 29 #[.int .i64 n] w fun e w' => e = .returned (.int .i64 (widthN n)) ∧ w = w' := by
  by_cases h1 : n ≤ 2
  · rw [widthN_1 h1]
    go_enter Try.func29, Try.ntmps29
    go_wp2_with fail
    refine wp_loop_rounds 1 ?_
    repeat any_goals (rw [rounds_succ]; go_wp2)
    all_goals (go_ret; exact ⟨rfl, rfl⟩)
  by_cases h2 : n ≤ 4
  · rw [widthN_2 (by omega) h2]
    go_enter Try.func29, Try.ntmps29
    go_wp2_with fail
    refine wp_loop_rounds 2 ?_
    repeat any_goals (rw [rounds_succ]; go_wp2)
    all_goals (go_ret; exact ⟨rfl, rfl⟩)
  by_cases h3 : n ≤ 16
  · rw [widthN_4 (by omega) h3]
    go_enter Try.func29, Try.ntmps29
    go_wp2_with fail
    refine wp_loop_rounds 3 ?_
    repeat any_goals (rw [rounds_succ]; go_wp2)
    all_goals (go_ret; exact ⟨rfl, rfl⟩)
  · rw [widthN_8 (by omega)]
    go_enter Try.func29, Try.ntmps29
    go_wp2_with fail
    refine wp_loop_rounds 4 ?_
    repeat any_goals (rw [rounds_succ]; go_wp2)
    all_goals (go_ret; exact ⟨rfl, rfl⟩)
end Go.Proofs.Ytpakcmcoafbgkaa.Cx
