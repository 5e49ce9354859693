/- Runs are put: the program's putRuns. -/
import Derived.Test.YtpakcmcoafbgkaaCo
import Derived.Test.YtpakcmcoafbgkaaCd
import Derived.Deep.RegionHeld3
namespace Go.Proofs.Ytpakcmcoafbgkaa.Cx
open Go.RowKit
/-- ys is appended to the row v of xs: of what was there nothing else has turned. -/
def AppPost (base : Nat) (v : Value) (xs ys : List Int) (w : World) (e : Ending) (w' : World) : Prop :=
  ∃ v', e = .returned v' ∧ Own .u8 5 w' base v' (xs ++ ys) ∧ w.grownBy w' v.ownBlock ∧ At w v v'
theorem grown_trans {w w1 w2 : World} {v v1 : Value} (h1 : w.grownBy w1 v.ownBlock) (ha : At w v v1) (h2 : w1.grownBy w2 v1.ownBlock) : w.grownBy w2 v.ownBlock := by
  refine ⟨h2.os.trans h1.os, h2.tape.trans h1.tape, h2.output.trans h1.output, Nat.le_trans h1.size h2.size, fun k hk hne => ?_⟩
  rw [h2.block k (Nat.lt_of_lt_of_le hk h1.size) ?_, h1.block k hk hne]
  rcases ha with ha | ⟨b, hb, hle⟩
  · rw [ha]; exact hne
  · rw [hb]; intro e; injection e with e; omega
theorem At.trans {w w1 : World} {v v1 v2 : Value} (h1 : At w v v1) (hs : w.heap.size ≤ w1.heap.size) (h2 : At w1 v1 v2) : At w v v2 := by
  rcases h2 with h2 | ⟨b, hb, hle⟩
  · rcases h1 with h1 | ⟨b, hb, hle⟩
    · exact .inl (h2.trans h1)
    · exact .inr ⟨b, h2.trans hb, hle⟩
  · exact .inr ⟨b, hb, by omega⟩
theorem At.refl (w : World) (v : Value) : At w v v := .inl rfl
theorem At.of_below {w w1 : World} {v v1 : Value} (h : At w1 v v1) (hs : w.heap.size ≤ w1.heap.size) : At w v v1 := by
  rcases h with h | ⟨b, hb, hle⟩
  · exact .inl h
  · exact .inr ⟨b, hb, by omega⟩
theorem grown_of_below' {w w1 w2 : World} {r : Option Nat} (hb : Below w.heap.size w w1) (h : w1.grownBy w2 r) : w.grownBy w2 r :=
  ⟨h.os.trans hb.os, h.tape.trans hb.tape, h.output.trans hb.output, Nat.le_trans hb.size h.size, fun k hk hne => (h.block k (Nat.lt_of_lt_of_le hk hb.size) hne).trans (hb.block k hk)⟩
theorem grown_below' {w w1 w2 : World} {r : Option Nat} (h : w.grownBy w1 r) (hb : Below w1.heap.size w1 w2) : w.grownBy w2 r :=
  ⟨hb.os.trans h.os, hb.tape.trans h.tape, hb.output.trans h.output, Nat.le_trans h.size hb.size, fun k hk hne => (hb.block k (Nat.lt_of_lt_of_le hk h.size)).trans (h.block k hk hne)⟩
theorem grown_refl (w : World) (r : Option Nat) : w.grownBy w r := World.grownBy.refl w r
/-- What is read in another block than v's stays. -/
theorem RI.grown {k : IntKind} {w w' : World} {v u : Value} {xs : List Int} (h : RI k w u xs) (hg : w.grownBy w' v.ownBlock) (hne : ∀ g, u.ownBlock = some g → v.ownBlock ≠ some g) : RI k w' u xs := by
  obtain ⟨A, c, rfl, h1, h2, h3⟩ := h
  refine ⟨A, c, rfl, h1, h2, fun j hj => ?_⟩
  obtain ⟨ad, rfl, hc⟩ := h3 j hj
  exact ⟨ad, rfl, hg.cell hc (by rw [add_block]; exact fun e => hne _ rfl e.symm)⟩
theorem cell_alloc {w : World} {p : Addr} {v : Value} (h : w.cell? p = some v) (o : Obj) : (w.alloc o).cell? p = some v := ((below_alloc w o).cell (World.block_lt_of_cell? w p h)).trans h
theorem cell_grown {w w1 : World} {u : Value} {p : Addr} {v : Value} (h : w.cell? p = some v) (hg : w.grownBy w1 u.ownBlock) (hne : u.ownBlock ≠ some p.block) : w1.cell? p = some v := hg.cell h (fun e => hne e.symm)
theorem putN_len (n : Nat) (h : n < 2097152) : (putN n).length ≤ 3 := by
  by_cases h1 : n < 128
  · rw [putN_lt h1]; simp
  · rw [putN_ge h1]
    by_cases h2 : n / 128 < 128
    · rw [putN_lt h2]; simp
    · rw [putN_ge h2, putN_lt (by omega)]; simp
set_option maxHeartbeats 1600000 in
set_option maxRecDepth 100000 in
theorem putRuns_any (base : Nat) (v : Value) (xs : List Int) (vp : Value) (ps : List Int) (w : World) (hO : Own .u8 5 w base v xs) (hB : base ≤ w.heap.size) (hp : RI .u8 w vp ps)
    (hne : ∀ g, vp.ownBlock = some g → v.ownBlock ≠ some g) (hlp : Low w.heap.size vp) (hx : (xs.length : Int) ≤ 1000) (hps : (ps.length : Int) ≤ 32768) : Calls Try.prog 22 #[v, vp] w (AppPost base v xs (runsE ps.length ps) w) := by
  obtain ⟨A, n, c, rfl⟩ : ∃ A n c, vp = .slice A n c := by
    obtain ⟨A, c, e, _⟩ := hp
    exact ⟨A, _, c, e⟩
  have HO := Lib.hid hO
  have HP := Lib.hid hp
  have HNE := Lib.hid hne
  have HLP := Lib.hid hlp
  have HX : Hid ((xs.length : Int) + 4 * ps.length ≤ xs.length + 4 * ps.length) := Int.le_refl _
  clear hO hp hne hlp
  go_enter Try.func22, Try.ntmps22
  go_wp2_with fail
  go_loopw [0, 1] (fun b p wr => ∃ (out rest : List Int) (A' : Option Addr) (n' c' f : Nat), p = .slice A' n' c' ∧ Hid (Own .u8 5 wr base b out) ∧ Hid (RI .u8 wr (.slice A' n' c') rest) ∧ Hid (xs ++ runsE ps.length ps = out ++ runsE f rest) ∧ n' ≤ f ∧
      Hid ((out.length : Int) + 4 * rest.length ≤ xs.length + 4 * ps.length) ∧ Hid (w.grownBy wr v.ownBlock) ∧ Hid (At w v b) ∧ Hid ((Value.slice A' n' c').ownBlock = (Value.slice A n c).ownBlock)) (fun _ p _ => match p with | .slice _ n _ => n | _ => 0)
  case atStart => exact ⟨xs, ps, A, n, c, ps.length, rfl, HO, HP, rfl, by rw [HP.out.len]; exact Nat.le_refl _, HX, grown_refl _ _, At.refl _ _, rfl⟩
  case round =>
    obtain ⟨out, rest, A', n', c', f, rfl, hO, hR, hE, hf, hL, hG, hA, hS⟩ := hrel
    by_cases hn : 0 < n'
    · have hrl := hR.out.len
      have h0 : 0 < rest.length := by omega
      go_wp2_with fail
      refine (run_any _ rest _ hR.out h0).mono ?_
      rintro e w1 ⟨rfl, m, rfl⟩
      obtain ⟨ad, ea, hx0⟩ := hR.out.at_ 0 hn
      cases ea
      rw [show ad.add 0 = ad from rfl] at hx0
      have hadl : ad.block < wr.heap.size := World.block_lt_of_cell? wr _ hx0
      have hbne : Hid (u0.ownBlock ≠ some ad.block) := by
        have hadw : ad.block < w.heap.size := HLP.out _ (by rw [← hS.out]; rfl)
        exact hA.out.ne (HNE.out _ (by rw [← hS.out]; rfl)) hadw
      have hrun1 := runLen_pos rest
      have hrun2 : Hid (runLen rest ≤ rest.length) := by
        rcases rest with _ | ⟨x, t⟩
        · simp at h0
        · exact runLen_le x t
      have hO2 : Hid (Own .u8 5 (wr.drewN m) base u0 out) := hO.out.kept fun _ _ => rfl
      have hg2 : Hid ((wr.drewN m).heap.size = wr.heap.size) := rfl
      have hbr : Hid (Below wr.heap.size wr (wr.drewN m)) := Drw.below ⟨m, rfl⟩ _
      have hrs : Hid (runsE f rest = putN (runLen rest) ++ [rest.getD 0 0] ++ runsE (f - 1) (rest.drop (runLen rest))) := by
        obtain ⟨f', rfl⟩ : ∃ f', f = f' + 1 := ⟨f - 1, by omega⟩
        rcases rest with _ | ⟨x, t⟩
        · simp at h0
        · exact rfl
      obtain ⟨r, hr⟩ : ∃ r, r = runLen rest := ⟨_, rfl⟩
      rw [← hr] at hrun1 hrun2 hrs ⊢
      have HRR := Lib.hid hr
      clear hr
      have hx1 : (wr.drewN m).cell? ad = some (.int .u8 (rest.getD 0 0)) := hx0
      generalize rest.getD 0 0 = x at *
      generalize hwm : wr.drewN m = wm at *
      have hrb : (r : Int) ≤ 2147483647 := by have := hrun2.out; have := hL.out; omega
      have hpl : (putN r).length ≤ 3 := putN_len r (by have := hrun2.out; have := hL.out; omega)
      have hol : (out.length : Int) ≤ 140000 := by have := hL.out; omega
      have hbm : base ≤ wm.heap.size := by have := hg2.out; have := hG.out.size; omega
      have hub : ∀ g, u0.ownBlock = some g → g < wm.heap.size := fun g hg => (hO2.out.base g hg).2
      have HUB := Lib.hid hub
      clear hub
      have adw : ad.block < wm.heap.size := by have := hg2.out; omega
      go_wp2_with fail
      clear hwm
      go_region_held3 (fun W => W.cell? ad = some (.int .u8 x)) (first | assumption | exact hx1 | exact cell_alloc (by assumption) _ | exact cell_alloc hx1 _)
        ((first
          | (go_at_call 36; refine (put_any _ [] r _ (RI.nil _ _) (by simp) hrb).mono ?_; rintro e w1 ⟨v1, rfl, hO1, hb1⟩; rw [List.nil_append] at hO1; have hc1 : w1.cell? ad = some (.int .u8 x) := (by first | exact (hb1.cell (p := ad) adw).trans hx1 | exact (hb1.cell (p := ad) (World.block_lt_of_cell? _ _ (cell_alloc (w := wm.drew) hx1 _))).trans (cell_alloc (w := wm.drew) hx1 _)))
          | (have hbW : Below wm.heap.size wm w1 := (by first | exact ((Below.refl _ wm).drew).trans hb1 | exact (below_drew_alloc wm _).trans (hb1.mono (below_drew_alloc wm _).size)); refine appR_step (w0 := w1) base rfl (.tmp 11) (.tmp 13) 25 5 .u8 1 rfl Try.underlying25 info5 (by omega) u0 out (putN r) v1 rfl rfl (by first | exact hO2.out.drew.below hb1 | exact (hO2.out.drew.alloc _).below hb1) hO1.RI (Below.refl _ _) (by have := hbW.size; omega) (by omega) ?_; intro v2 w2 hO3 hB3 hG3 hA3; have hc2 := cell_grown hc1 hG3 hbne.out; have hcx := hc1; (try have hbx : RI .u8 w2 (.slice (some ⟨wm.heap.size, 0, none⟩) 1 1) [x] := ((RI.box .u8 5 wm.drew [x] (by simp) (0, 0)).below hb1).grown hG3 (fun g hg e => by have h1 := HUB.out g e; simp [Value.ownBlock] at hg; omega)))
          | (have hbW : Below wm.heap.size wm (w1.alloc (.cells #[.int .u8 x] 5)) := (((Below.refl _ wm).drew).trans hb1).alloc hb1.size _; refine appR_step (w0 := w1.alloc (.cells #[.int .u8 x] 5)) base rfl (.tmp 11) (.tmp 13) 25 5 .u8 1 rfl Try.underlying25 info5 (by omega) u0 out (putN r) v1 rfl rfl ((hO2.out.drew.below hb1).alloc _) (hO1.RI.alloc _) (Below.refl _ _) (by have := hbW.size; omega) (by omega) ?_; intro v2 w2 hO3 hB3 hG3 hA3; have hc2 := cell_grown (cell_alloc hc1 _) hG3 hbne.out; have hcx := cell_alloc hc1 (.cells #[.int .u8 x] 5); have hbx : RI .u8 w2 (.slice (some ⟨w1.heap.size, 0, none⟩) 1 1) [x] := (RI.box .u8 5 w1 [x] (by simp) (0, 0)).grown hG3 (fun g hg e => by have h1 := HUB.out g e; have h2 := hb1.size; have h3 : wm.drew.heap.size = wm.heap.size := rfl; simp [Value.ownBlock] at hg; omega))
          | (refine appR_step (w0 := w2) base rfl (.tmp 14) (.tmp 18) 25 5 .u8 1 rfl Try.underlying25 info5 (by omega) v2 (out ++ putN r) [x] (.slice (some ⟨w2.heap.size, 0, none⟩) 1 1) rfl rfl (hO3.alloc _) (RI.box .u8 5 w2 [x] (by simp) (0, 0)) ((Below.refl _ _).alloc (by have := hG3.size; have := hbW.size; omega) _) (by have := hG3.size; have := hbW.size; simp; omega) (by rw [List.length_append]; simp; omega) ?_; intro v3 w3 hO4 hB4 hG4 hA4; have hGf : wm.grownBy w3 u0.ownBlock := grown_trans (grown_of_below' hbW hG3) (hA3.of_below hbW.size) (grown_of_below' (below_alloc w2 _) hG4); have hAf : At wm u0 v3 := (hA3.of_below hbW.size).trans (by have := hG3.size; have := hbW.size; omega) (hA4.of_below (below_alloc w2 _).size); have hc3 : w3.cell? ad = some (.int .u8 x) := cell_grown (cell_alloc hc2 _) hG4 (hA3.ne hbne.out (World.block_lt_of_cell? _ _ hcx)))
          | (refine appR_step (w0 := w2) base rfl (.tmp 14) (.tmp 18) 25 5 .u8 1 rfl Try.underlying25 info5 (by omega) v2 (out ++ putN r) [x] _ rfl rfl hO3 hbx (Below.refl _ _) (by have := hG3.size; have := hbW.size; omega) (by rw [List.length_append]; simp; omega) ?_; intro v3 w3 hO4 hB4 hG4 hA4; have hGf : wm.grownBy w3 u0.ownBlock := grown_trans (grown_of_below' hbW hG3) (hA3.of_below hbW.size) hG4; have hAf : At wm u0 v3 := (hA3.of_below hbW.size).trans (by have := hG3.size; have := hbW.size; omega) hA4; have hc3 : w3.cell? ad = some (.int .u8 x) := cell_grown hc2 hG4 (hA3.ne hbne.out (World.block_lt_of_cell? _ _ hcx)))))
      all_goals
        have hrn : r ≤ n' := by have := hrun2.out; omega
        have hRd : RI .u8 w3 (.slice (cutA (some ad) c' r) (n' - r) (c' - r)) (rest.drop r) := ((hR.out.below hbr.out).grown hGf (fun g hg e => hbne.out (by rw [e, ← hg]; rfl))).drop r hrn
        have hE' : Hid (xs ++ runsE ps.length ps = (out ++ putN r ++ [x]) ++ runsE (f - 1) (rest.drop r)) := by
          show _ = _
          rw [hE.out, hrs.out]; simp only [List.append_assoc]
        have hL' : Hid (((out ++ putN r ++ [x]).length : Int) + 4 * (rest.drop r).length ≤ xs.length + 4 * ps.length) := by
          have := hL.out
          rw [List.length_append, List.length_append, List.length_singleton, List.length_drop]
          show _ ≤ _
          omega
        have hG5 : Hid (w.grownBy w3 v.ownBlock) := grown_trans hG.out hA.out (grown_of_below' hbr.out hGf)
        have hA5 : Hid (At w v v3) := hA.out.trans hG.out.size (hAf.of_below hbr.out.size)
        have hO5 := Lib.hid hO4
        have hS5 : Hid ((Value.slice (cutA (some ad) c' r) (n' - r) (c' - r)).ownBlock = (Value.slice A n c).ownBlock) := (cutA_block (n := n')).trans hS.out
        have HRd := Lib.hid hRd
        have hlc := hR.out.lc
        clear hRd hO4 hG4 hA4 hB4 hGf hAf hc3 hA3 hG3 hB3 hO3 hbW hO1 hb1 hc1 hc2 hcx
        by_cases hcr : c' = r
        · have hcu : cutA (some ad) c' r = some ad := by unfold cutA; rw [if_pos hcr]
          have hc0 : c' - r = 0 := by omega
          rw [hcu, hc0] at HRd hS5
          clear hcu hc0
          go_wp2_with fail
          exact ⟨⟨_, _, _, _, _, f - 1, rfl, hO5, HRd, hE', by omega, hL', hG5, hA5, hS5⟩, by show n' - r < n'; omega⟩
        · have hcu : cutA (some ad) c' r = some (ad.add r) := by unfold cutA; rw [if_neg hcr]; rfl
          rw [hcu] at HRd hS5
          clear hcu
          go_wp2_with fail
          exact ⟨⟨_, _, _, _, _, f - 1, rfl, hO5, HRd, hE', by omega, hL', hG5, hA5, hS5⟩, by show n' - r < n'; omega⟩
    · have hr0 : rest = [] := List.eq_nil_of_length_eq_zero (by have := hR.out.len; omega)
      have hfin : Hid (Own .u8 5 wr base u0 (xs ++ runsE ps.length ps)) := by
        have e : runsE f rest = [] := by rw [hr0]; cases f <;> rfl
        have := hE.out
        rw [e, List.append_nil] at this
        show Own _ _ _ _ _ _
        rw [this]; exact hO.out
      clear hr0
      go_wp2_with fail
      go_ret
      exact ⟨_, rfl, hfin.out, hG.out, hA.out⟩
end Go.Proofs.Ytpakcmcoafbgkaa.Cx
