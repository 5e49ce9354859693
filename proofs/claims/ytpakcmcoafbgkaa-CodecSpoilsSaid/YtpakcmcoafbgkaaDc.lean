/- awake: the laws' look at the examples. -/
import Derived.Test.YtpakcmcoafbgkaaDb
import Derived.Test.YtpakcmcoafbgkaaCy
namespace Go.Proofs.Ytpakcmcoafbgkaa.Cx
open Go.RowKit
def isTrue (w : World) (e : Ending) (w' : World) : Prop := e = .returned (.bool true) ∧ Below w.heap.size w w'
theorem str_any (w : World) (v : Value) (xs : List Int) (h : RI .u8 w v xs) (hb : Bytes xs) : (convert 25 9 v).run Try.prog w = .ok (.string (strB xs)) w :=
  run_str 25 9 5 Try.underlying25 Try.underlying5 Try.underlying9 w v xs h hb
theorem ex_long : dec ([] ++ [1, 1, 0, 128, 128, 2, 0] ++ [0]) = .error 2 := by
  have h := dec_enc (cs := List.replicate (32767 + 1) 0) (fun x hx => by obtain rfl := List.eq_of_mem_replicate hx; omega) (by rw [List.length_replicate]; rfl) [0]
  rw [enc_z _ 32767 (by omega) rfl] at h
  exact h
theorem ex_bytes1 : Bytes ([] ++ [1, 1, 0, 128, 128, 2, 0] ++ [0]) := by intro x hx; simp at hx; omega
theorem lit_dec (W : World) (xs : List Int) (c : Int) (hd : dec xs = .error c) (hb : Bytes xs) (hl : xs.length ≤ 9223372036854775807) :
    Calls Try.prog 15 #[.slice (some ⟨W.heap.size, 0, none⟩) xs.length xs.length] (W.alloc (.cells (nums .u8 xs).toArray 5)) fun e w' => e = .returned (.tuple #[.pointer none, .int .i64 c]) ∧ Below W.heap.size W w' := by
  have hr := RI.box .u8 5 W xs hl (0, 0)
  have hd' := decode_any _ xs _ hr hb (fun g hg => by
    obtain rfl : W.heap.size = g := by simpa [Value.ownBlock] using hg
    show W.heap.size < (W.heap.push _).size
    rw [Array.size_push]; omega)
  rw [hd] at hd'
  refine hd'.mono ?_
  rintro e w1 ⟨rfl, hb1⟩
  exact ⟨rfl, (below_alloc W _).trans (hb1.mono (below_alloc W _).size)⟩
set_option maxHeartbeats 3200000 in
theorem awake_any (w : World) : Calls Try.prog 9 #[] w (isTrue w) := by
  go_enter Try.func9, Try.ntmps9
  go_wp2_with fail
  refine (new_any w).mono ?_
  rintro e w1 ⟨rfl, hw1⟩
  have hc1 : Hid (Chk w1 w.heap.size (List.replicate 32768 0)) := by rw [hw1]; exact new_chk w
  have hb1 : Hid (Below w.heap.size w w1) := by rw [hw1]; exact below_alloc w _
  clear hw1
  go_wp2_with fail
  have hkz : Kinds (List.replicate 32768 0) := z32_kinds
  refine (encode_any _ _ w1 hc1.out hkz).mono ?_
  rintro e w2 ⟨v2, rfl, hO2, hb2⟩
  rw [enc_z _ 32767 (by omega) rfl] at hO2
  clear hkz hc1
  have hO2' := Lib.hid hO2
  obtain ⟨g2, c2, cur2, rfl, hg2, _, hcc1, hcc2, -⟩ := hO2.form (by simp)
  have hb2w : Hid (Below w.heap.size w w2) := hb1.out.trans (hb2.mono hb1.out.size)
  have hs2 : w.heap.size ≤ w2.heap.size := hb2w.out.size
  simp only [List.length_cons, List.length_nil, Nat.zero_add, Nat.reduceAdd] at hcc1 hO2' ⊢
  clear hO2 hb2 hb1
  go_wp2_with (first
    | (at_builtin; refine appR (w0 := w2) w2.heap.size rfl (.const (.slice none 0 0)) (.tmp 17) 25 5 .u8 1 rfl Try.underlying25 info5 (by omega) (.slice none 0 0) [] [1, 1, 0, 128, 128, 2, 0] _ rfl rfl (Own.nil _ _ _ _) hO2'.out.RI (Below.refl _ _) (Nat.le_refl _) (by simp) ?_; intro v3 w3 h3 hb3 hg3 ha3; have hs3 := hb3.size; have H3 := Lib.hid h3; have HB3 := Lib.hid hb3; have HG3 := Lib.hid hg3; clear h3 hb3 hg3 ha3)
    | (at_builtin; refine appR (w0 := w2) w2.heap.size rfl (.tmp 18) (.tmp 19) 25 5 .u8 1 rfl Try.underlying25 info5 (by omega) v3 ([] ++ [1, 1, 0, 128, 128, 2, 0]) [0] (.slice (some ⟨w3.heap.size, 0, none⟩) 1 1) rfl rfl (H3.out.alloc _) (RI.box .u8 5 w3 [0] (by simp) (0, 0)) (HB3.out.alloc hs3 _) (by simp; omega) (by simp) ?_; intro v4 w4 h4 hb4 hg4 ha4; have hs4 := hb4.size; have H4 := Lib.hid h4; have HB4 := Lib.hid hb4; have HG4 := Lib.hid hg4; clear h4 hb4 hg4 ha4))
  have hd1 : dec ([] ++ [1, 1, 0, 128, 128, 2, 0] ++ [0]) = .error 2 := ex_long
  refine (decode_any v4 _ w4 H4.out.RI (ex_bytes1) (fun g hg => (H4.out.base g hg).2)).mono ?_
  rw [hd1]
  rintro e w5 ⟨rfl, hb5⟩
  have HB5 : Hid (Below w2.heap.size w2 w5) := HB4.out.trans (hb5.mono hs4)
  have hs5 : w2.heap.size ≤ w5.heap.size := HB5.out.size
  clear hb5 hd1 H4 HG4 HG3 H3
  go_wp2_with fail
  refine (lit_dec w5 [2, 1, 3] 3 ex_short (by intro x hx; simp at hx; omega) (by simp)).mono ?_
  rintro e w6 ⟨rfl, hb6⟩
  have HB6 : Hid (Below w2.heap.size w2 w6) := HB5.out.trans (hb6.mono hs5)
  have hs6 : w2.heap.size ≤ w6.heap.size := HB6.out.size
  clear hb6
  go_wp2_with fail
  refine (lit_dec w6 [3, 1, 0, 0] 4 ex_form3 (by intro x hx; simp at hx; omega) (by simp)).mono ?_
  rintro e w7 ⟨rfl, hb7⟩
  have HB7 : Hid (Below w2.heap.size w2 w7) := HB6.out.trans (hb7.mono hs6)
  have hs7 : w2.heap.size ≤ w7.heap.size := HB7.out.size
  clear hb7
  go_wp2_with fail
  refine (lit_dec w7 [1, 2, 5, 5, 0] 4 ex_form5 (by intro x hx; simp at hx; omega) (by simp)).mono ?_
  rintro e w8 ⟨rfl, hb8⟩
  have HB8 : Hid (Below w2.heap.size w2 w8) := HB7.out.trans (hb8.mono hs7)
  have hs8 : w2.heap.size ≤ w8.heap.size := HB8.out.size
  clear hb8
  have hcv : (convert 25 9 (.slice (some ⟨g2, 0, none⟩) 7 c2)).run Try.prog w8 = .ok (.string ⟨#[1, 1, 0, 128, 128, 2, 0]⟩) w8 :=
    str_any w8 _ [1, 1, 0, 128, 128, 2, 0] (hO2'.out.below HB8.out).RI (by intro x hx; simp at hx; omega)
  go_wp2_with fail
  refine (encode_nil w8).mono ?_
  rintro e w9 ⟨rfl, rfl⟩
  go_wp2_with fail
  go_ret
  exact ⟨rfl, hb2w.out.trans (HB8.out.mono hs2)⟩
end Go.Proofs.Ytpakcmcoafbgkaa.Cx
