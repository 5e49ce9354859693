/- The zero chunk: 32768 zeros; what a chunk is in memory; chunk.New. -/
import Derived.Test.YtpakcmcoafbgkaaCb
namespace Go.Proofs.Ytpakcmcoafbgkaa.Cx
open Go.RowKit
def zz : Value := .int .u8 0
def zr0 : List Value := [zz, zz, zz, zz, zz, zz, zz, zz, zz, zz, zz, zz, zz, zz, zz, zz, zz, zz, zz, zz, zz, zz, zz, zz, zz, zz, zz, zz, zz, zz, zz, zz, zz, zz, zz, zz, zz, zz, zz, zz, zz, zz, zz, zz, zz, zz, zz, zz, zz, zz, zz, zz, zz, zz, zz, zz, zz, zz, zz, zz, zz, zz, zz, zz]
def zr1 : List Value := List.append zr0 zr0
def zr2 : List Value := List.append zr1 zr1
def zr3 : List Value := List.append zr2 zr2
def zr4 : List Value := List.append zr3 zr3
def zr5 : List Value := List.append zr4 zr4
def zr6 : List Value := List.append zr5 zr5
def zr7 : List Value := List.append zr6 zr6
def zr8 : List Value := List.append zr7 zr7
def zr9 : List Value := List.append zr8 zr8
theorem zr0_eq : zr0 = List.replicate 64 zz := rfl
theorem zr_dbl {l : List Value} {n : Nat} (h : l = List.replicate n zz) : List.append l l = List.replicate (n + n) zz := by
  subst h; exact List.replicate_append_replicate
theorem zr9_eq : zr9 = List.replicate 32768 zz :=
  zr_dbl (n := 16384) (zr_dbl (n := 8192) (zr_dbl (n := 4096) (zr_dbl (n := 2048) (zr_dbl (n := 1024) (zr_dbl (n := 512) (zr_dbl (n := 256) (zr_dbl (n := 128) (zr_dbl (n := 64) zr0_eq))))))))
theorem zero56 : (Try.prog.info? 56).bind (fun i => i.zero) = some (.agg zr9.toArray) := by kernel_rfl
theorem size56 : (Try.prog.info? 56).map (fun i => (i.size, i.bytes)) = some (32768, 32768) := by kernel_rfl
theorem size54 : (Try.prog.info? 54).map (fun i => (i.size, i.bytes)) = some (32768, 32768) := by kernel_rfl
section
variable {P : Program}
theorem run_build_zero1 (w : World) (t : TypeId) (f : Field) (z : Array Value) (hu : P.underlying t = some (.struct #[f])) (hz : (P.info? t).bind (fun i => i.zero) = some (.agg z)) {s1 s2 : Nat} (hf : (P.info? f.type).map (fun i => (i.size, i.bytes)) = some (s1, s2)) :
    (Instr.build t #[]).run P w = .ok (.agg z) w := by
  obtain ⟨i, hi, hiz⟩ := Option.bind_eq_some_iff.1 hz
  obtain ⟨j, hj, _⟩ := Option.map_eq_some_iff.1 hf
  simp [Instr.build, zeroValue, typeInfo, hi, hiz, run_underlying hu, sizeOf, hj, Instr.fill, Value.cells]
theorem run_box_agg (w : World) (t : TypeId) (cs : Array Value) : (Instr.box t (.agg cs)).run P w = .ok (.pointer (some ⟨w.heap.size, 0, none⟩)) (w.alloc (.cells cs t)) := by
  simp [Instr.box, newVar, newRow, Value.cells]
theorem wpList_build_zero {ops : Array Oper} {rest : List Oper} {o : Oper} {a : Act} {w : World} {Q : Exit → Act → World → Prop} (hgd : o.guard = none) (t : TypeId) (ho : o.op = .build t #[])
    (z : Array Value) (hr : (Instr.build t #[]).run P w = .ok (.agg z) w) (h : wpList P ops Q rest (a.put o.dst (.agg z)) w) : wpList P ops Q (o :: rest) a w := by
  refine wpList_plain hgd fun K hK => ?_
  unfold Oper.wp execOp
  simp only [ho, Array.map_empty, hr, Sem.run_bind, Sem.run_pure, Result.andThen_ok]
  exact hK _ _ h
theorem wpList_box_agg {ops : Array Oper} {rest : List Oper} {o : Oper} {a : Act} {w : World} {Q : Exit → Act → World → Prop} (hgd : o.guard = none) (t : TypeId) (x : Operand) (ho : o.op = .box t x)
    (cs : Array Value) (hx : a.eval x = .agg cs) (h : wpList P ops Q rest (a.put o.dst (.pointer (some ⟨w.heap.size, 0, none⟩))) (w.alloc (.cells cs t))) : wpList P ops Q (o :: rest) a w := by
  refine wpList_plain hgd fun K hK => ?_
  unfold Oper.wp execOp
  simp only [ho, hx, run_box_agg, Sem.run_bind, Sem.run_pure, Result.andThen_ok]
  exact hK _ _ h
end
/-- A chunk: block g holds these cells. -/
structure Chk (w : World) (g : Nat) (cs : List Int) : Prop where
  blk : w.heap[g]? = some (.cells (nums .u8 cs).toArray 56 (0, 0))
  len : Hid (cs.length = 32768)
theorem Chk.below {w w' : World} {g : Nat} {cs : List Int} (h : Chk w g cs) (hb : Below w.heap.size w w') : Chk w' g cs := ⟨by rw [hb.block g (Array.getElem?_eq_some_iff.1 h.blk).1]; exact h.blk, h.len⟩
theorem Chk.lt {w : World} {g : Nat} {cs : List Int} (h : Chk w g cs) : g < w.heap.size := (Array.getElem?_eq_some_iff.1 h.blk).1
theorem zr9_nums : zr9 = nums .u8 (List.replicate 32768 0) := by
  rw [zr9_eq]; unfold nums; rw [List.map_replicate]; exact congrArg (List.replicate 32768) rfl
theorem new_any (w : World) : Calls Try.prog 19 #[] w fun e w' => e = .returned (.pointer (some ⟨w.heap.size, 0, none⟩)) ∧ w' = w.alloc (.cells zr9.toArray 56) := by
  have hb := run_build_zero1 (P := Try.prog) w 56 _ zr9.toArray Try.underlying56 zero56 size54
  go_enter Try.func19, Try.ntmps19
  go_wp2_with (first
    | (with_reducible refine wpList_build_zero rfl 56 rfl zr9.toArray hb ?_)
    | (with_reducible refine wpList_box_agg rfl 56 _ rfl zr9.toArray rfl ?_))
  go_ret
  exact ⟨rfl, rfl⟩
theorem new_chk (w : World) : Chk (w.alloc (.cells zr9.toArray 56)) w.heap.size (List.replicate 32768 0) :=
  ⟨by rw [heap_alloc_new, zr9_nums], List.length_replicate⟩
end Go.Proofs.Ytpakcmcoafbgkaa.Cx
