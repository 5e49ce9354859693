/- How many places the first run has; numbers put in groups of seven bits. -/
import Derived.Test.YtpakcmcoafbgkaaCn
namespace Go.Proofs.Ytpakcmcoafbgkaa.Cx
open Go.RowKit
/-- The world is the old one, some orders having been drawn. -/
def Drw (w w' : World) : Prop := ∃ m, w' = w.drewN m
theorem Drw.refl (w : World) : Drw w w := ⟨0, rfl⟩
theorem Drw.heap {w w' : World} (h : Drw w w') : w'.heap = w.heap := by obtain ⟨m, rfl⟩ := h; rfl
theorem Drw.below {w w' : World} (h : Drw w w') (B : Nat) : Below B w w' := by
  obtain ⟨m, rfl⟩ := h
  exact ⟨rfl, rfl, rfl, Nat.le_refl _, fun _ _ => rfl⟩
theorem Drw.step {w w' : World} (h : Drw w w') (n : Nat) : Drw w (w'.drewN n) := by
  obtain ⟨m, rfl⟩ := h
  exact ⟨m + n, World.drewN_drewN ..⟩
theorem runLen_eq (l : List Int) (k : Nat) (h1 : 1 ≤ k) (hk : k ≤ l.length) (he : ∀ j, j < k → l.getD j 0 = l.getD 0 0) (hs : k = l.length ∨ l.getD k 0 ≠ l.getD 0 0) : runLen l = k := by
  rcases l with _ | ⟨x, xs⟩
  · simp at hk; omega
  · obtain ⟨m, rfl⟩ : ∃ m, k = m + 1 := ⟨k - 1, by omega⟩
    show (xs.takeWhile fun y => y == x).length + 1 = m + 1
    have key : ∀ (xs : List Int) (m : Nat), m ≤ xs.length → (∀ j, j < m → xs.getD j 0 = x) → (m = xs.length ∨ xs.getD m 0 ≠ x) → (xs.takeWhile fun y => y == x).length = m := by
      intro xs
      induction xs with
      | nil => intro m hm _ _; simp at hm; simp [hm]
      | cons y ys ih =>
        intro m hm h1 h2
        rcases m with _ | m
        · rcases h2 with h2 | h2
          · simp at h2
          · have : (y == x) = false := beq_eq_false_iff_ne.2 (by simpa using h2)
            simp [this]
        · have hy : y = x := by simpa using h1 0 (by omega)
          have := ih m (by simpa using hm) (fun j hj => by simpa using h1 (j + 1) (by omega)) (by simpa using h2)
          simp [hy, this]
    rw [key xs m (by simpa using hk) (fun j hj => by simpa using he (j + 1) (by omega)) (by simpa using hs)]
set_option maxHeartbeats 800000 in
theorem run_any (v : Value) (l : List Int) (w : World) (h : RI .u8 w v l) (h0 : 0 < l.length) : Calls Try.prog 35 #[v] w fun e w' => e = .returned (.int .i64 (runLen l)) ∧ Drw w w' := by
  obtain ⟨A, n, c, rfl⟩ : ∃ A n c, v = .slice A n c := by
    obtain ⟨A, c, e, _⟩ := h
    exact ⟨A, _, c, e⟩
  have HN := Lib.hid h.len
  have hn : (n : Int) ≤ 9223372036854775807 := by have := h.lc; omega
  have hn0 : 0 < n := by have := h.len; omega
  obtain ⟨ad, ea, hx0⟩ := h.at_ 0 hn0
  cases ea
  rw [show ad.add 0 = ad from rfl] at hx0
  have H := Lib.hid h
  clear h h0
  go_enter Try.func35, Try.ntmps35
  go_wp2_with fail
  go_loopw [3] (fun i wr => ∃ k m : Nat, 1 ≤ k ∧ k ≤ n ∧ i = .int .i64 k ∧ Hid (∀ j, j < k → l.getD j 0 = l.getD 0 0) ∧ wr = w.drewN m) (fun i _ => n - (intOf i).toNat)
  case atStart => exact ⟨1, 0, by omega, by omega, rfl, fun j hj => (by rw [show j = 0 by omega]), rfl⟩
  case round =>
    obtain ⟨k, m, hk1, hk, rfl, hal, rfl⟩ := hrel
    by_cases hkn : (k : Int) < n
    · obtain ⟨ad', ea, hx⟩ := H.out.at_ k (by omega)
      cases ea
      by_cases he : l.getD k 0 = l.getD 0 0
      · have hal' : Hid (∀ j, j < k + 1 → l.getD j 0 = l.getD 0 0) := fun j hj => by
          by_cases hjk : j < k
          · exact hal.out j hjk
          · obtain rfl : j = k := by omega
            exact he
        have hb : (l.getD k 0 == l.getD 0 0) = true := beq_iff_eq.2 he
        clear he
        generalize l.getD k 0 = y at *
        generalize l.getD 0 0 = x at *
        go_wp2_with fail
        go_quiet (fail)
        go_wp2
        go_roundw
        case measure => simp [intOf]; omega
        case rel => exact ⟨k + 1, _, by omega, by omega, by go_num, hal', rfl⟩
      · have hr : Hid (runLen l = k) := runLen_eq l k hk1 (by have := HN.out; omega) hal.out (.inr he)
        have hb : (l.getD k 0 == l.getD 0 0) = false := beq_eq_false_iff_ne.2 he
        clear he hal
        generalize l.getD k 0 = y at *
        generalize l.getD 0 0 = x at *
        go_wp2_with fail
        go_quiet (fail)
        go_wp2
        go_ret
        exact ⟨by rw [hr.out]; rfl, ⟨_, World.drewN_drewN ..⟩⟩
    · have hr : Hid (runLen l = k) := runLen_eq l k hk1 (by have := HN.out; omega) hal.out (.inl (by have := HN.out; omega))
      have hd : decide (k < n) = false := decide_eq_false (by omega)
      clear hal hkn
      go_wp2_with fail
      go_quiet (fail)
      go_wp2
      go_ret
      exact ⟨by rw [hr.out]; rfl, ⟨_, World.drewN_drewN ..⟩⟩
theorem or128 (m : Nat) : bits .or .u8 ((m : Int) % 256) 128 = ((m % 128 + 128 : Nat) : Int) := by
  have e : (m : Int) % 256 = ((m % 256 : Nat) : Int) := by omega
  rw [e, show (128 : Int) = ((128 : Nat) : Int) from rfl, (bits_nat .u8 8 (by decide) wraps_u8 (m % 256) 128 (by omega) (by omega)).2]
  have key : ∀ a : Fin 256, a.val ||| 128 = a.val % 128 + 128 := by decide +kernel
  have := key ⟨m % 256, by omega⟩
  simp only at this
  rw [this]; omega
set_option maxHeartbeats 800000 in
theorem put_any (v : Value) (bs : List Int) (n : Nat) (w : World) (h : RI .u8 w v bs) (hl : (bs.length : Int) ≤ 100000) (hn : (n : Int) ≤ 2147483647) : Calls Try.prog 36 #[v, .int .i64 n] w (NewRow .u8 5 (bs ++ putN n) w) := by
  have H := Lib.hid h
  clear h
  go_enter Try.func36, Try.ntmps36
  go_wp2_with fail
  refine (clone_any v bs w H.out (by omega)).mono ?_
  rintro e w1 ⟨v1, rfl, hO, hb⟩
  have HO := Lib.hid hO
  have HB := Lib.hid hb
  clear hO hb
  go_wp2_with fail
  go_loopw [1, 5] (fun i v wr => ∃ (m : Nat) (xs : List Int), i = .int .i64 m ∧ m ≤ n ∧ (xs.length : Int) + m ≤ bs.length + n ∧ Hid (Own .u8 5 wr w.heap.size v xs) ∧ Hid (bs ++ putN n = xs ++ putN m) ∧ Hid (Below w.heap.size w wr))
    (fun i _ _ => (intOf i).toNat)
  case atStart => exact ⟨n, bs, rfl, by omega, by omega, HO, rfl, HB⟩
  case round =>
    obtain ⟨m, xs, rfl, hm, hxl, hO, hE, hbel⟩ := hrel
    have hws := hbel.out.size
    by_cases hge : (128 : Int) ≤ m
    · have hE' : Hid (bs ++ putN n = (xs ++ [((m % 128 + 128 : Nat) : Int)]) ++ putN (m / 128)) := by
        rw [hE.out, putN_ge (by omega), List.append_assoc]; exact rfl
      have ho := Lib.hid (or128 m)
      go_wp2_with (at_builtin; rw [ho.out]; refine appR (w0 := w) w.heap.size rfl (.tmp 15) (.tmp 19) 25 5 .u8 1 rfl Try.underlying25 info5 (by omega) u5 xs [((m % 128 + 128 : Nat) : Int)] (.slice (some ⟨wr.heap.size, 0, none⟩) 1 1) rfl rfl (hO.out.alloc _) (RI.box .u8 5 wr [((m % 128 + 128 : Nat) : Int)] (by simp) (0, 0)) (hbel.out.alloc hws _) (by simp; omega) (by simp; omega) ?_; intro v1 w1 h1 hb1 hg1 ha1)
      clear hg1 ha1
      have H1 := Lib.hid h1
      clear h1
      go_wp2
      exact ⟨⟨m / 128, xs ++ [((m % 128 + 128 : Nat) : Int)], by go_num, by omega, by rw [List.length_append, List.length_singleton]; omega, H1, hE', hb1⟩, by simp [intOf]; omega⟩
    · have hE' : Hid (bs ++ putN n = xs ++ [(m : Int)]) := by rw [hE.out, putN_lt (by omega)]; exact rfl
      go_wp2_with (at_builtin; refine appR (w0 := w) w.heap.size rfl (.tmp 21) (.tmp 24) 25 5 .u8 1 rfl Try.underlying25 info5 (by omega) u5 xs [(m : Int)] (.slice (some ⟨wr.heap.size, 0, none⟩) 1 1) rfl rfl (hO.out.alloc _) (RI.box .u8 5 wr [(m : Int)] (by simp) (0, 0)) (hbel.out.alloc hws _) (by simp; omega) (by simp; omega) ?_; intro v1 w1 h1 hb1 hg1 ha1)
      go_ret
      exact ⟨_, rfl, by rw [hE'.out]; exact h1, hb1⟩
set_option maxHeartbeats 800000 in
theorem rput_any (v : Value) (bs : List Int) (n : Nat) (w : World) (h : RI .u8 w v bs) (hl : (bs.length : Int) ≤ 100000) (hn : (n : Int) ≤ 2147483647) : Calls Try.prog 27 #[v, .int .i64 n] w (NewRow .u8 5 (bs ++ putN n) w) := by
  have H := Lib.hid h
  clear h
  go_enter Try.func27, Try.ntmps27
  go_wp2_with (at_builtin; refine appR (w0 := w) w.heap.size rfl _ (.tmp 6) 25 5 .u8 1 rfl Try.underlying25 info5 (by omega) (.slice none 0 0) [] bs v rfl rfl (Own.nil _ _ _ _) H.out (Below.refl _ _) (Nat.le_refl _) (by simp; omega) ?_; intro v1 w1 h1 hb1 hg1 ha1)
  have HO : Hid (Own .u8 5 w1 w.heap.size v1 bs) := by rw [List.nil_append] at h1; exact h1
  have HB := Lib.hid hb1
  clear h1 hb1 hg1 ha1
  go_loopw [1, 5] (fun i v wr => ∃ (m : Nat) (xs : List Int), i = .int .i64 m ∧ m ≤ n ∧ (xs.length : Int) + m ≤ bs.length + n ∧ Hid (Own .u8 5 wr w.heap.size v xs) ∧ Hid (bs ++ putN n = xs ++ putN m) ∧ Hid (Below w.heap.size w wr))
    (fun i _ _ => (intOf i).toNat)
  case atStart => exact ⟨n, bs, rfl, by omega, by omega, HO, rfl, HB⟩
  case round =>
    obtain ⟨m, xs, rfl, hm, hxl, hO, hE, hbel⟩ := hrel
    have hws := hbel.out.size
    by_cases hge : (128 : Int) ≤ m
    · have hE' : Hid (bs ++ putN n = (xs ++ [((m % 128 + 128 : Nat) : Int)]) ++ putN (m / 128)) := by
        rw [hE.out, putN_ge (by omega), List.append_assoc]; exact rfl
      have ho : Hid ((m : Int) % 128 + 128 = ((m % 128 + 128 : Nat) : Int)) := by
        show (m : Int) % 128 + 128 = ((m % 128 + 128 : Nat) : Int); omega
      go_wp2_with (at_builtin; rw [ho.out]; refine appR (w0 := w) w.heap.size rfl (.tmp 13) (.tmp 18) 25 5 .u8 1 rfl Try.underlying25 info5 (by omega) u5 xs [((m % 128 + 128 : Nat) : Int)] (.slice (some ⟨wr.heap.size, 0, none⟩) 1 1) rfl rfl (hO.out.alloc _) (RI.box .u8 5 wr [((m % 128 + 128 : Nat) : Int)] (by simp) (0, 0)) (hbel.out.alloc hws _) (by simp; omega) (by simp; omega) ?_; intro v1 w1 h1 hb1 hg1 ha1)
      clear hg1 ha1
      have H1 := Lib.hid h1
      clear h1
      go_wp2
      exact ⟨⟨m / 128, xs ++ [((m % 128 + 128 : Nat) : Int)], by go_num, by omega, by rw [List.length_append, List.length_singleton]; omega, H1, hE', hb1⟩, by simp [intOf]; omega⟩
    · have hE' : Hid (bs ++ putN n = xs ++ [(m : Int)]) := by rw [hE.out, putN_lt (by omega)]; exact rfl
      go_wp2_with (at_builtin; refine appR (w0 := w) w.heap.size rfl (.tmp 22) (.tmp 25) 25 5 .u8 1 rfl Try.underlying25 info5 (by omega) u5 xs [(m : Int)] (.slice (some ⟨wr.heap.size, 0, none⟩) 1 1) rfl rfl (hO.out.alloc _) (RI.box .u8 5 wr [(m : Int)] (by simp) (0, 0)) (hbel.out.alloc hws _) (by simp; omega) (by simp; omega) ?_; intro v1 w1 h1 hb1 hg1 ha1)
      go_ret
      exact ⟨_, rfl, by rw [hE'.out]; exact h1, hb1⟩
end Go.Proofs.Ytpakcmcoafbgkaa.Cx
