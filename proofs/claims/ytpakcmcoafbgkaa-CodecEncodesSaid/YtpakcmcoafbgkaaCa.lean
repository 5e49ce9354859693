/- Vocabulary of this seat's proofs, over any program: a slice value that reads as a list of numbers ('RI'), a row of the call's own ('Own'), append laws for both, what a step leaves of either. No program in sight. -/
import Derived.Below
import Derived.OwnWalk
import Derived.WalkKit
import Derived.Deep.AppendLies
import Derived.Maps.AppendAt
import Derived.Laws.MakeOwn
import Derived.Laws.OwnMore
import Derived.Laws.BytesArg
import Derived.Laws.CopyOwn
import Derived.Deep.MidRow
import Derived.Lib.Hide
import Derived.Deep.Draws
import Derived.Deep.QuietTactic
import Derived.BigQuiet
import Derived.WalkSpells
import Derived.Deep.LoopGhost
import Derived.Deep.DeepCutAuto
import Derived.Deep.CutBlock
import Derived.WalkLawsBesides
namespace Go.Proofs.Ytpakcmcoafbgkaa.Cx
open Go.RowKit

def nums (k : IntKind) (xs : List Int) : List Value := xs.map (Value.int k)
theorem nums_length (k : IntKind) (xs : List Int) : (nums k xs).length = xs.length := by simp [nums]
theorem nums_append (k : IntKind) (xs ys : List Int) : nums k (xs ++ ys) = nums k xs ++ nums k ys := by simp [nums]
theorem nums_get {k : IntKind} {xs : List Int} {j : Nat} {u : Value} (h : (nums k xs)[j]? = some u) : j < xs.length ∧ u = .int k (xs.getD j 0) := by
  have hj : j < xs.length := by
    rcases Nat.lt_or_ge j xs.length with h1 | h1
    · exact h1
    · simp [nums, List.getElem?_eq_none h1] at h
  refine ⟨hj, ?_⟩
  simp [nums, List.getElem?_eq_getElem hj] at h
  simp [← h, List.getElem?_eq_getElem hj]
theorem nums_at {k : IntKind} {xs : List Int} {j : Nat} (hj : j < xs.length) : (nums k xs)[j]? = some (.int k (xs.getD j 0)) := by
  simp [nums, List.getElem?_eq_getElem hj]
theorem nums_one (k : IntKind) (xs : List Int) : ∀ u ∈ nums k xs, u.oneCell' = true := by
  intro u hu; simp only [nums, List.mem_map] at hu; obtain ⟨x, _, rfl⟩ := hu; rfl

theorem adp (b o j : Nat) : (⟨b, o, none⟩ : Addr).add j = ⟨b, o + j, none⟩ := by unfold Addr.add; split <;> simp_all
theorem add_block (a : Addr) (j : Nat) : (a.add j).block = a.block := by unfold Addr.add; split <;> rfl
theorem add_add' (a : Addr) (i j : Nat) : (a.add i).add j = a.add (i + j) := by
  unfold Addr.add
  by_cases h1 : i = 0 <;> by_cases h2 : j = 0 <;> simp [h1, h2, Nat.add_assoc]

/-! A slice value that reads as the numbers xs. -/
def RI (k : IntKind) (w : World) (v : Value) (xs : List Int) : Prop :=
  ∃ A c, v = .slice A xs.length c ∧ xs.length ≤ c ∧ c ≤ 9223372036854775807 ∧ ∀ j, j < xs.length → ∃ ad, A = some ad ∧ w.cell? (ad.add j) = some (.int k (xs.getD j 0))

theorem RI.nil (k : IntKind) (w : World) : RI k w (.slice none 0 0) [] := ⟨none, 0, rfl, Nat.le_refl _, by omega, fun j hj => by simp at hj⟩
theorem RI.move {k : IntKind} {w w' : World} {v : Value} {xs : List Int} (h : RI k w v xs) (hb : ∀ g, v.ownBlock = some g → w'.heap[g]? = w.heap[g]?) : RI k w' v xs := by
  obtain ⟨A, c, rfl, h1, h2, h3⟩ := h
  refine ⟨A, c, rfl, h1, h2, fun j hj => ?_⟩
  obtain ⟨ad, rfl, hc⟩ := h3 j hj
  refine ⟨ad, rfl, ?_⟩
  rw [← hc]
  exact World.cell?_of_block (by rw [add_block]; exact hb _ rfl)
theorem RI.below {k : IntKind} {w w' : World} {v : Value} {xs : List Int} (h : RI k w v xs) (hb : Below w.heap.size w w') : RI k w' v xs := by
  obtain ⟨A, c, rfl, h1, h2, h3⟩ := h
  refine ⟨A, c, rfl, h1, h2, fun j hj => ?_⟩
  obtain ⟨ad, rfl, hc⟩ := h3 j hj
  exact ⟨ad, rfl, by rw [hb.cell (World.block_lt_of_cell? w _ hc)]; exact hc⟩
theorem RI.lt {k : IntKind} {w : World} {v : Value} {xs : List Int} (h : RI k w v xs) (h0 : 0 < xs.length) : ∀ g, v.ownBlock = some g → g < w.heap.size := by
  obtain ⟨A, c, rfl, h1, h2, h3⟩ := h
  intro g hg
  obtain ⟨ad, rfl, hc⟩ := h3 0 h0
  have := World.block_lt_of_cell? w _ hc
  rw [add_block] at this
  simp [Value.ownBlock] at hg
  omega
theorem RI.alloc {k : IntKind} {w : World} {v : Value} {xs : List Int} (h : RI k w v xs) (o : Obj) : RI k (w.alloc o) v xs := h.below ((Below.refl _ _).alloc (Nat.le_refl _) o)
theorem RI.drew {k : IntKind} {w : World} {v : Value} {xs : List Int} (h : RI k w v xs) : RI k w.drew v xs := h.move fun _ _ => rfl
theorem RI.drewN {k : IntKind} {w : World} {v : Value} {xs : List Int} (h : RI k w v xs) (n : Nat) : RI k (w.drewN n) v xs := h.move fun _ _ => rfl
theorem RI.take {k : IntKind} {w : World} {A : Option Addr} {n c : Nat} {xs : List Int} (h : RI k w (.slice A n c) xs) (m : Nat) (hm : m ≤ n) : RI k w (.slice A m c) (xs.take m) := by
  obtain ⟨A', c', he, h1, h2, h3⟩ := h
  injection he with e1 e2 e3
  subst e1; subst e2; subst e3
  have hl : (xs.take m).length = m := by simp; omega
  refine ⟨A, c, by rw [hl], by rw [hl]; omega, h2, fun j hj => ?_⟩
  rw [hl] at hj
  obtain ⟨ad, e, hc⟩ := h3 j (by omega)
  exact ⟨ad, e, by rw [hc]; simp [hj]⟩
def cutA (A : Option Addr) (c m : Nat) : Option Addr := if c = m then A else A.map (·.add m)
theorem RI.drop {k : IntKind} {w : World} {A : Option Addr} {n c : Nat} {xs : List Int} (h : RI k w (.slice A n c) xs) (m : Nat) (hm : m ≤ n) : RI k w (.slice (cutA A c m) (n - m) (c - m)) (xs.drop m) := by
  obtain ⟨A', c', he, h1, h2, h3⟩ := h
  injection he with e1 e2 e3
  subst e1; subst e2; subst e3
  have hl : (xs.drop m).length = xs.length - m := by simp
  refine ⟨cutA A c m, c - m, by rw [hl], by rw [hl]; omega, by omega, fun j hj => ?_⟩
  rw [hl] at hj
  obtain ⟨ad, rfl, hc⟩ := h3 (m + j) (by omega)
  refine ⟨ad.add m, by unfold cutA; rw [if_neg (by omega)]; rfl, ?_⟩
  rw [add_add', hc]; simp
theorem cutA_block {A : Option Addr} {n c m n' c' : Nat} : (Value.slice (cutA A c m) n' c').ownBlock = (Value.slice A n c).ownBlock := by
  unfold cutA; split
  · cases A <;> rfl
  · cases A with
    | none => rfl
    | some a => simp [Value.ownBlock, add_block]
theorem RI.len {k : IntKind} {w : World} {A : Option Addr} {n c : Nat} {xs : List Int} (h : RI k w (.slice A n c) xs) : xs.length = n := by
  obtain ⟨A', c', he, _⟩ := h
  injection he with _ e2 _
  exact e2.symm
theorem RI.lc {k : IntKind} {w : World} {A : Option Addr} {n c : Nat} {xs : List Int} (h : RI k w (.slice A n c) xs) : n ≤ c ∧ c ≤ 9223372036854775807 := by
  obtain ⟨A', c', he, h1, h2, _⟩ := h
  injection he with _ e2 e3
  subst e2; subst e3
  exact ⟨h1, h2⟩
theorem RI.at_ {k : IntKind} {w : World} {A : Option Addr} {n c : Nat} {xs : List Int} (h : RI k w (.slice A n c) xs) (j : Nat) (hj : j < n) : ∃ ad, A = some ad ∧ w.cell? (ad.add j) = some (.int k (xs.getD j 0)) := by
  obtain ⟨A', c', he, _, _, h3⟩ := h
  injection he with e1 e2 e3
  subst e1; subst e2
  exact h3 j hj
/-- The cells, and the flat form that the append laws ask for. -/
theorem RI.cells {k : IntKind} {w : World} {ad : Addr} {n c : Nat} {xs : List Int} (h : RI k w (.slice (some ad) n c) xs) : ∀ j u, (nums k xs)[j]? = some u → w.cell? (ad.add j) = some u := by
  intro j u hu
  obtain ⟨hj, rfl⟩ := nums_get hu
  obtain ⟨ad', e, hc⟩ := h.at_ j (by rw [← h.len]; exact hj)
  injection e with e; subst e
  exact hc

/-! A row of the call's own, of numbers. -/
def Own (k : IntKind) (e : TypeId) (w : World) (base : Nat) (v : Value) (xs : List Int) : Prop := w.ownsRow base e 1 v xs.length (nums k xs)
theorem Own.nil (k : IntKind) (e : TypeId) (w : World) (base : Nat) : Own k e w base (.slice none 0 0) [] := World.ownsRow_nil w base e 1
theorem Own.slice {k : IntKind} {e : TypeId} {w : World} {base : Nat} {v : Value} {xs : List Int} (h : Own k e w base v xs) : ∃ A c, v = .slice A xs.length c := by
  rcases h.2 with ⟨rfl, h0⟩ | ⟨g, cap, cur, rfl, _⟩
  · exact ⟨none, 0, by rw [h0]⟩
  · exact ⟨_, cap, rfl⟩
theorem Own.val {k : IntKind} {e : TypeId} {w : World} {base : Nat} {v : Value} {xs : List Int} (h : Own k e w base v xs) : ∃ A n c, v = .slice A n c := by
  obtain ⟨A, c, h⟩ := h.slice
  exact ⟨A, _, c, h⟩
theorem Own.len {k : IntKind} {e : TypeId} {w : World} {base : Nat} {A : Option Addr} {n c : Nat} {xs : List Int} (h : Own k e w base (.slice A n c) xs) : n = xs.length := by
  obtain ⟨A, c, h⟩ := h.slice
  injection h
theorem Own.RI {k : IntKind} {e : TypeId} {w : World} {base : Nat} {v : Value} {xs : List Int} (h : Own k e w base v xs) : RI k w v xs := by
  rcases h.2 with ⟨rfl, h0⟩ | ⟨g, cap, cur, rfl, hb, hg, hn, hc, _⟩
  · obtain rfl : xs = [] := List.eq_nil_of_length_eq_zero h0
    exact RI.nil k w
  · refine ⟨_, cap, rfl, hn, by simpa [maxLen] using hc, fun j hj => ⟨_, rfl, ?_⟩⟩
    exact World.ownsRow.cells h rfl j _ (nums_at hj)
theorem Own.base {k : IntKind} {e : TypeId} {w : World} {base : Nat} {v : Value} {xs : List Int} (h : Own k e w base v xs) : ∀ g, v.ownBlock = some g → base ≤ g ∧ g < w.heap.size := World.ownsRow.lt h
theorem Own.kept {k : IntKind} {e : TypeId} {w w' : World} {base : Nat} {v : Value} {xs : List Int} (h : Own k e w base v xs) (hb : ∀ g, v.ownBlock = some g → w'.heap[g]? = w.heap[g]?) : Own k e w' base v xs := by
  refine ⟨h.1, ?_⟩
  rcases h.2 with hn | ⟨g, cap, cur, rfl, hbb, hg, rest⟩
  · exact .inl hn
  · exact .inr ⟨g, cap, cur, rfl, hbb, by rw [hb g rfl]; exact hg, rest⟩
theorem Own.below {k : IntKind} {e : TypeId} {w w' : World} {base : Nat} {v : Value} {xs : List Int} (h : Own k e w base v xs) (hb : Below w.heap.size w w') : Own k e w' base v xs :=
  h.kept fun g hg => hb.block g (h.base g hg).2
theorem Own.alloc {k : IntKind} {e : TypeId} {w : World} {base : Nat} {v : Value} {xs : List Int} (h : Own k e w base v xs) (o : Obj) : Own k e (w.alloc o) base v xs := h.below ((Below.refl _ _).alloc (Nat.le_refl _) o)
theorem Own.drew {k : IntKind} {e : TypeId} {w : World} {base : Nat} {v : Value} {xs : List Int} (h : Own k e w base v xs) : Own k e w.drew base v xs := h.kept fun _ _ => rfl
theorem Own.mono {k : IntKind} {e : TypeId} {w : World} {base base' : Nat} {v : Value} {xs : List Int} (h : Own k e w base v xs) (hb : base' ≤ base) : Own k e w base' v xs := by
  refine ⟨h.1, ?_⟩
  rcases h.2 with hn | ⟨g, cap, cur, rfl, hbb, rest⟩
  · exact .inl hn
  · exact .inr ⟨g, cap, cur, rfl, by omega, rest⟩
/-- A store into a row of the call's own, at a place that it has. -/
theorem Own.store {k : IntKind} {e : TypeId} {w : World} {base g n cap : Nat} {xs : List Int} (h : Own k e w base (.slice (some ⟨g, 0, none⟩) n cap) xs) (i : Nat) (x : Int) :
    Own k e (w.setCell ⟨g, i, none⟩ (.int k x)) base (.slice (some ⟨g, 0, none⟩) n cap) (xs.set i x) ∧ w.grownBy (w.setCell ⟨g, i, none⟩ (.int k x)) (some g) := by
  have hn : n = xs.length := by
    obtain ⟨A, c, he⟩ := h.slice
    injection he
  subst hn
  have hs := World.ownsRow.stored h i (.int k x)
  have he : (nums k xs).set i (.int k x) = nums k (xs.set i x) := by simp [nums, List.map_set]
  rw [he] at hs
  exact ⟨by unfold Own; rw [List.length_set]; exact hs.1, hs.2⟩
/-- A row of the call's own that holds something: where it lies. -/
theorem Own.form {k : IntKind} {e : TypeId} {w : World} {base : Nat} {v : Value} {xs : List Int} (h : Own k e w base v xs) (h0 : 0 < xs.length) : ∃ g c cur, v = .slice (some ⟨g, 0, none⟩) xs.length c ∧ base ≤ g ∧ w.heap[g]? = some (.cells cur e (0, 0)) ∧ xs.length ≤ c ∧ c ≤ 9223372036854775807 ∧ cur.size = c := by
  rcases h.2 with ⟨rfl, h1⟩ | ⟨g, cap, cur, rfl, hb, hg, hn, hc, hs, _⟩
  · omega
  · exact ⟨g, cap, cur, rfl, hb, hg, hn, by simpa [maxLen] using hc, by simpa using hs⟩
/-- A block that is known whole is a row of one's own. -/
theorem Own.of_block {k : IntKind} {e : TypeId} {w : World} {base g : Nat} {xs : List Int} (hg : w.heap[g]? = some (.cells (nums k xs).toArray e (0, 0))) (hb : base ≤ g) (hl : xs.length ≤ 9223372036854775807) : Own k e w base (.slice (some ⟨g, 0, none⟩) xs.length xs.length) xs := by
  refine ⟨by simp [nums], .inr ⟨g, xs.length, _, rfl, hb, hg, Nat.le_refl _, by simpa [maxLen] using hl, by simp [nums], ?_⟩⟩
  rw [Nat.mul_one]
  exact List.take_of_length_le (by simp [nums])

/-! append. -/
section
variable {P : Program} {ops : Array Oper} {rest : List Oper} {o : Oper} {a : Act} {Q : Exit → Act → World → Prop}
/-- What an append leaves of the row's place: the same block, or a new one. -/
def At (W : World) (v v1 : Value) : Prop := v1.ownBlock = v.ownBlock ∨ ∃ b, v1.ownBlock = some b ∧ W.heap.size ≤ b
theorem At.ne {W : World} {v v1 : Value} (h : At W v v1) {g : Nat} (hv : v.ownBlock ≠ some g) (hg : g < W.heap.size) : v1.ownBlock ≠ some g := by
  rcases h with h | ⟨b, h, hb⟩
  · rw [h]; exact hv
  · rw [h]; intro he; injection he with he; omega
theorem grown_at {w w' : World} {v : Value} (hg : w.grownBy w' v.ownBlock) {g : Nat} (hv : v.ownBlock ≠ some g) (hlt : g < w.heap.size) : w'.heap[g]? = w.heap[g]? := hg.block g hlt (fun e => hv e.symm)
theorem blk_grown {wr W w1 : World} {v : Value} {br : Nat} {ob : Obj} (hb : wr.heap[br]? = some ob) (hW : Below wr.heap.size wr W) (hg : W.grownBy w1 v.ownBlock) (hne : v.ownBlock ≠ some br) : w1.heap[br]? = some ob := by
  have hlt : br < wr.heap.size := (Array.getElem?_eq_some_iff.1 hb).1
  rw [hg.block br (Nat.lt_of_lt_of_le hlt hW.size) (fun e => hne e.symm), hW.block br hlt]
  exact hb
theorem below_drew_alloc (w : World) (o : Obj) : Below w.heap.size w (w.drew.alloc o) := ((Below.refl _ _).drew).alloc (Nat.le_refl _) o
theorem below_alloc (w : World) (o : Obj) : Below w.heap.size w (w.alloc o) := (Below.refl _ _).alloc (Nat.le_refl _) o

theorem run_append_RI {w0 W : World} (base : Nat) (t ty e : TypeId) (k : IntKind) (bytes : Nat) (ht : P.underlying t = some (.slice e)) (hinfo : (P.info? e).map (fun i => (i.zero, i.size, i.bytes)) = some (some (.int k 0), 1, bytes)) (hb0 : 0 < bytes)
    (v : Value) (xs ys : List Int) (vy : Value) (HO : Own k e W base v xs) (HR : RI k W vy ys) (HB : Below base w0 W) (hbase : base ≤ W.heap.size) (hl : (xs.length + ys.length) * bytes ≤ 140737488355328) :
    ∃ v1 w1, (Builtin.append_ #[t, t] ty #[v, vy]).run P W = .ok v1 w1 ∧ Own k e w1 base v1 (xs ++ ys) ∧ Below base w0 w1 ∧ W.grownBy w1 v.ownBlock ∧ At W v v1 := by
  obtain ⟨i0, hi, hzz⟩ := Option.map_eq_some_iff.1 hinfo
  simp only [Prod.mk.injEq] at hzz
  obtain ⟨hz0, hz1, hz2⟩ := hzz
  have hlen : xs.length + ys.length ≤ 140737488355328 := Nat.le_trans (Nat.le_mul_of_pos_right _ hb0) hl
  obtain ⟨A, c, rfl, hc1, hc2, hcell⟩ := HR
  rcases A with _ | ad
  · have h0 : ys = [] := by
      rcases ys with _ | ⟨y, ys⟩
      · rfl
      · obtain ⟨ad, h, _⟩ := hcell 0 (by simp)
        cases h
    subst h0
    refine ⟨v, W, ?_, by simpa using HO, HB, World.grownBy.refl W _, .inl rfl⟩
    rcases HO.2 with ⟨rfl, hn⟩ | ⟨g, cap, cur, rfl, _, _, hnc, _⟩
    · simp [Builtin.append_, run_underlying ht, sizeOf, typeInfo, hi, Builtin.lenOf, Builtin.firstCells]
    · simp [Builtin.append_, run_underlying ht, sizeOf, typeInfo, hi, Builtin.lenOf, Builtin.firstCells, hnc, storeCells]
  · have hcells : ∀ j u, (nums k ys)[j]? = some u → W.cell? (ad.add j) = some u := by
      intro j u hu
      obtain ⟨hj, rfl⟩ := nums_get hu
      obtain ⟨ad', e, hc⟩ := hcell j hj
      injection e with e; subst e
      exact hc
    obtain ⟨v1, w1, hr, h2, h3, _, h5⟩ := run_append_own_at (P := P) W base t ty e i0 (.int k 0) 1 bytes ht hi hz0 hz1 hz2 rfl (by omega) v xs.length (nums k xs) HO ad ys.length c (nums k ys) (by simp [nums]) hcells
      (nums_one k ys) (by simp only [maxLen]; omega) hl hbase
    refine ⟨v1, w1, hr, ?_, HB.grown h3 hbase (fun g hg => (HO.base g hg).1), h3, ?_⟩
    · unfold Own; rw [List.length_append, nums_append]; exact h2
    · rcases h5 with h5 | h5
      · exact .inl h5
      · exact .inr ⟨_, h5, Nat.le_refl _⟩

/-- append(v, ys...): v of one's own (nil too), ys read. -/
theorem appR {w0 W : World} (base : Nat) (hgd : o.guard = none) (s x : Operand) (t e : TypeId) (k : IntKind) (bytes : Nat)
    (ho : o.op = .call { callee := .builtin .append, args := #[s, x], argTypes := #[t, t] })
    (ht : P.underlying t = some (.slice e)) (hinfo : (P.info? e).map (fun i => (i.zero, i.size, i.bytes)) = some (some (.int k 0), 1, bytes)) (hb0 : 0 < bytes)
    (v : Value) (xs ys : List Int) (vy : Value) (hs : a.eval s = v) (hx : a.eval x = vy)
    (HO : Own k e W base v xs) (HR : RI k W vy ys) (HB : Below base w0 W) (hbase : base ≤ W.heap.size) (hl : (xs.length + ys.length) * bytes ≤ 140737488355328)
    (h : ∀ v1 w1, Own k e w1 base v1 (xs ++ ys) → Below base w0 w1 → W.grownBy w1 v.ownBlock → At W v v1 → wpList P ops Q rest (a.put o.dst v1) w1) :
    wpList P ops Q (o :: rest) a W := by
  obtain ⟨v1, w1, hr, h1, h2, h3, h4⟩ := run_append_RI (P := P) (w0 := w0) base t o.type e k bytes ht hinfo hb0 v xs ys vy HO HR HB hbase hl
  refine wpList_plain hgd fun K hK => ?_
  unfold Oper.wp execOp
  simp only [ho, resolve, invoke, builtin, Sem.run_bind, Sem.run_pure, Result.andThen_ok, List.map_toArray, List.map_cons, List.map_nil, hs, hx, hr]
  exact hK _ _ (h v1 w1 h1 h2 h3 h4)
/-- The same as a step of a region that draws its order. -/
theorem appR_step {w0 W : World} {K : Act → World → Prop} {E : Prop} (base : Nat) (hgd : o.guard = none) (s x : Operand) (t e : TypeId) (k : IntKind) (bytes : Nat)
    (ho : o.op = .call { callee := .builtin .append, args := #[s, x], argTypes := #[t, t] })
    (ht : P.underlying t = some (.slice e)) (hinfo : (P.info? e).map (fun i => (i.zero, i.size, i.bytes)) = some (some (.int k 0), 1, bytes)) (hb0 : 0 < bytes)
    (v : Value) (xs ys : List Int) (vy : Value) (hs : a.eval s = v) (hx : a.eval x = vy)
    (HO : Own k e W base v xs) (HR : RI k W vy ys) (HB : Below base w0 W) (hbase : base ≤ W.heap.size) (hl : (xs.length + ys.length) * bytes ≤ 140737488355328)
    (h : ∀ v1 w1, Own k e w1 base v1 (xs ++ ys) → Below base w0 w1 → W.grownBy w1 v.ownBlock → At W v v1 → K (a.put o.dst v1) w1) :
    if Region.wanted o (yielded ops a.tmps) = true then Oper.wp P o a W K Q else E := by
  obtain ⟨v1, w1, hr, h1, h2, h3, h4⟩ := run_append_RI (P := P) (w0 := w0) base t o.type e k bytes ht hinfo hb0 v xs ys vy HO HR HB hbase hl
  rw [if_pos (by simp [Region.wanted, hgd])]
  unfold Oper.wp execOp
  simp only [ho, resolve, invoke, builtin, Sem.run_bind, Sem.run_pure, Result.andThen_ok, List.map_toArray, List.map_cons, List.map_nil, hs, hx, hr]
  exact h v1 w1 h1 h2 h3 h4
/-- What a variadic's box reads as. -/
theorem RI.box (k : IntKind) (e : TypeId) (W : World) (ys : List Int) (hl : ys.length ≤ 9223372036854775807) (fr : Nat × Nat) : RI k (W.alloc (.cells (nums k ys).toArray e fr)) (.slice (some ⟨W.heap.size, 0, none⟩) ys.length ys.length) ys := by
  refine ⟨_, _, rfl, Nat.le_refl _, hl, fun j hj => ⟨_, rfl, ?_⟩⟩
  rw [adp, cell_of_row _ _ _ _ _ _ (heap_alloc_new W _), Nat.zero_add]
  have := nums_at (k := k) hj
  simpa using this
end

/-! The make of numbers. -/
theorem madeCells_nums (k : IntKind) (m : Nat) : madeCells #[.int k 0] m = (nums k (List.replicate m 0)).toArray := by
  apply Array.ext
  · simp [size_madeCells, nums]
  · intro i h1 h2
    simp only [madeCells, List.size_toArray, List.length_cons, List.length_nil, Array.getElem_map, List.getElem_toArray, nums, List.map_replicate, List.getElem_replicate]
    have : (Array.range m)[i]'(by simpa [madeCells] using h1) % (0 + 1) = 0 := Nat.mod_one _
    rw [this]; rfl
theorem run_make_nums {P : Program} (t e : TypeId) (k : IntKind) (bytes : Nat) (ht : P.underlying t = some (.slice e)) (hinfo : (P.info? e).map (fun i => (i.zero, i.size, i.bytes)) = some (some (.int k 0), 1, bytes))
    (l m : Nat) (hlm : l ≤ m) (hn : m * bytes ≤ 281474976710656) (hm : m ≤ 281474976710656) (W : World) :
    (Instr.makeSlice t (.int .i64 (l : Int)) (.int .i64 (m : Int))).run P W = .ok (.slice (some ⟨W.heap.size, 0, none⟩) l m) (W.alloc (.cells (nums k (List.replicate m 0)).toArray e)) := by
  obtain ⟨i0, hi, hzz⟩ := Option.map_eq_some_iff.1 hinfo
  simp only [Prod.mk.injEq] at hzz
  obtain ⟨hz0, hz1, hz2⟩ := hzz
  have h := run_make (P := P) W t e i0 (.int k 0) ht hi hz0 .i64 .i64 (l : Int) (m : Int) (by omega) (by omega) (by rw [hz2, ← Int.natCast_mul, Nat.mul_comm]; omega) (by omega)
  rw [hz1, Int.toNat_natCast, Int.toNat_natCast, Nat.mul_one] at h
  rw [← madeCells_nums]
  exact h
end Go.Proofs.Ytpakcmcoafbgkaa.Cx
