/- Two chunks of the same cells differ nowhere. -/
import Derived.Test.YtpakcmcoafbgkaaDd
import Derived.Stop.BytesEq
import Derived.Deep.RegionHeld3
namespace Go.Proofs.Ytpakcmcoafbgkaa.Cx
open Go.RowKit
open Extern.Stop (cell)
theorem nums_cell (xs : List Int) (hb : Bytes xs) : nums .u8 xs = (xs.map fun x => UInt8.ofNat x.toNat).map cell := by
  unfold nums
  rw [List.map_map]
  refine List.map_congr_left fun x hx => ?_
  obtain ⟨h0, h1⟩ := hb x hx
  have e : ((UInt8.ofNat x.toNat).toNat : Int) = x := by rw [UInt8.toNat_ofNat']; omega
  show Value.int .u8 x = Value.int .u8 ((UInt8.ofNat x.toNat).toNat : Int)
  rw [e]
theorem eq_array (d N : Nat) (h54 : Try.prog.underlying 54 = some (.array N 5)) (xs : List Int) (hl : xs.length = N) (hb : Bytes xs) (W : World) :
    (Op.equalIn (d + 2) 54 (.agg (nums .u8 xs).toArray) (.agg (nums .u8 xs).toArray)).run Try.prog W = .ok true W := by
  have hsz : ∀ w, (sizeOf 5).run Try.prog w = .ok 1 w := fun w => by simp
  rw [nums_cell xs hb]
  have h := run_equalIn_bytes (P := Try.prog) W d 54 5 N h54 Try.underlying5 hsz (xs.map fun x => UInt8.ofNat x.toNat) (xs.map fun x => UInt8.ofNat x.toNat) (by rw [List.length_map, hl]) (by rw [List.length_map, hl])
  rw [beq_self_eq_true] at h
  exact h
theorem part_whole (N : Nat) (hs : ∀ w, (sizeOf 54).run Try.prog w = .ok N w) (xs : List Int) (hl : xs.length = N) (W : World) :
    (part 54 (nums .u8 xs).toArray 0).run Try.prog W = .ok (.agg (nums .u8 xs).toArray) W := by
  have hx : (nums .u8 xs).toArray.extract 0 (0 + N) = (nums .u8 xs).toArray := by
    rw [← hl, Nat.zero_add]
    have e : xs.length = (nums .u8 xs).toArray.size := by simp [nums]
    rw [e, Array.extract_size]
  simp only [part, Sem.run_bind, Try.isAgg54, hs, Result.andThen_ok, if_true, Sem.run_pure, hx]
theorem fieldsOf_struct {P : Program} {t : TypeId} {fs : Array Field} (h : P.underlying t = some (.struct fs)) : P.fieldsOf t = fs := by
  unfold Program.fieldsOf; rw [h]
theorem eq_fields (d N : Nat) (f : Field) (f1 : f.type = 54) (f2 : f.offset = 0) (f3 : f.name ≠ "_") (h54 : Try.prog.underlying 54 = some (.array N 5)) (hs : ∀ w, (sizeOf 54).run Try.prog w = .ok N w)
    (xs : List Int) (hl : xs.length = N) (hb : Bytes xs) (W : World) : (Op.eqFields (d + 2) (nums .u8 xs).toArray (nums .u8 xs).toArray [f]).run Try.prog W = .ok true W := by
  have hp := part_whole N hs xs hl W
  have he := eq_array d N h54 xs hl hb W
  unfold Op.eqFields
  rw [if_pos f3, f1, f2]
  rw [Sem.run_bind, hp, Result.andThen_ok, Sem.run_bind, hp, Result.andThen_ok, Sem.run_bind, he, Result.andThen_ok, if_neg (by decide), Op.eqFields, Sem.run_pure]
theorem eq_struct (d N : Nat) (f : Field) (hf : f.type = 54 ∧ f.offset = 0 ∧ f.name ≠ "_") (h56 : Try.prog.underlying 56 = some (.struct #[f])) (h54 : Try.prog.underlying 54 = some (.array N 5)) (hs : ∀ w, (sizeOf 54).run Try.prog w = .ok N w)
    (xs : List Int) (hl : xs.length = N) (hb : Bytes xs) (W : World) : (Op.equalIn (d + 2 + 1) 56 (.agg (nums .u8 xs).toArray) (.agg (nums .u8 xs).toArray)).run Try.prog W = .ok true W := by
  have hfs := fieldsOf_struct h56
  refine (run_equalIn_struct W (d + 2) 56 _ _ ?_ Try.stoodInHeld56).trans ?_
  · rw [hfs]; exact h56
  · rw [hfs]; exact eq_fields d N f hf.1 hf.2.1 hf.2.2 h54 hs xs hl hb W
theorem eql_struct (N : Nat) (f : Field) (hf : f.type = 54 ∧ f.offset = 0 ∧ f.name ≠ "_") (h56 : Try.prog.underlying 56 = some (.struct #[f])) (h54 : Try.prog.underlying 54 = some (.array N 5)) (hs : ∀ w, (sizeOf 54).run Try.prog w = .ok N w)
    (xs : List Int) (hl : xs.length = N) (hb : Bytes xs) (W : World) : (binOp .eql 56 (.agg (nums .u8 xs).toArray) (.agg (nums .u8 xs).toArray)).run Try.prog W = .ok (.bool true) W := by
  rw [run_eql_struct, eq_struct 9997 N f hf h56 h54 hs xs hl hb W]
  rfl
theorem eql56 (xs : List Int) (hl : xs.length = 32768) (hb : Bytes xs) (W : World) : (binOp .eql 56 (.agg (nums .u8 xs).toArray) (.agg (nums .u8 xs).toArray)).run Try.prog W = .ok (.bool true) W :=
  eql_struct 32768 _ ⟨rfl, rfl, by decide⟩ Try.underlying56 Try.underlying54 Try.sizeOf54 xs hl hb W
theorem quiet_load {P : Program} {D : World → Prop} {o : Oper} {a : Act} {K : Act → Prop} (ty : TypeId) (x : Operand) (ho : o.op = .load ty x) (b off : Nat) (hx : a.eval x = .pointer (some ⟨b, off, none⟩)) (cs : List Value) (d : TypeDesc)
    (hC : ∀ w, D w → w.rangeAt b off cs) (hu : P.underlying ty = some d) (hd : d.isRow = true) (hi : (P.info? ty).map (·.size) = some cs.length) (h : K (a.put o.dst (.agg cs.toArray))) : o.quiet P a D K :=
  ⟨_, fun w hw => by
    unfold Oper.quietAt execOp
    simp only [ho, hx, Instr.loadAt, Instr.sureAddr, Sem.run_bind, Sem.run_pure, Result.andThen_ok, run_loadVar_mid w b off ty cs d (hC w hw) hu hd hi]
    exact ⟨rfl, rfl⟩, h⟩
set_option maxHeartbeats 1600000 in
theorem diff_same (g1 g2 : Nat) (xs : List Int) (w : World) (h1 : Chk w g1 xs) (h2 : Chk w g2 xs) (hk : Kinds xs) : Calls Try.prog 18 #[.pointer (some ⟨g1, 0, none⟩), .pointer (some ⟨g2, 0, none⟩)] w fun e w' => e = .returned (.slice none 0 0) ∧ Below w.heap.size w w' := by
  have hl := h1.len
  have heq := Lib.hid fun W => eql56 xs hl.out (kinds_bytes hk) W
  have hu := Lib.hid Try.underlying56
  have hi : Hid ((Try.prog.info? 56).map (·.size) = some (nums .u8 xs).length) := by show _ = _; rw [nums_length, hl.out]; exact (show (Try.prog.info? 56).map (·.size) = some 32768 by kernel_rfl)
  have hr1 : w.rangeAt g1 0 (nums .u8 xs) := fun j v hv => by rw [cell_of_row w g1 _ _ _ _ h1.blk]; simpa using hv
  have hr2 : w.rangeAt g2 0 (nums .u8 xs) := fun j v hv => by rw [cell_of_row w g2 _ _ _ _ h2.blk]; simpa using hv
  clear h1 h2 hk
  generalize nums .u8 xs = C at *
  go_enter Try.func18, Try.ntmps18
  go_wp2_with fail
  have hi' := hi.out
  have hu' := hu.out
  have heq' := heq.out
  refine wp_region_quiet_lit (by kernel_rfl) (by kernel_rfl) ?_
  repeat (first
    | (go_big_quiet_want; refine quiet_load 56 (.tmp 12) rfl g1 0 rfl C _ (by rintro _ ⟨n, rfl⟩; exact hr1) hu' rfl hi' ?_; go_big_quiet_on; simp only [Act.put, List.setIfInBounds_toArray, List.set_cons_zero, List.set_cons_succ])
    | (go_big_quiet_want; refine quiet_load 56 (.tmp 15) rfl g2 0 rfl C _ (by rintro _ ⟨n, rfl⟩; exact hr2) hu' rfl hi' ?_; go_big_quiet_on; simp only [Act.put, List.setIfInBounds_toArray, List.set_cons_zero, List.set_cons_succ])
    | go_big_quiet_step (fail))
  refine wpQuiet_nil ?_
  intro _ hw'
  obtain ⟨nq, hw''⟩ := hw'
  subst hw''
  go_wp2_with fail
  go_ret
  exact ⟨rfl, Drw.below ⟨nq, rfl⟩ _⟩
end Go.Proofs.Ytpakcmcoafbgkaa.Cx
