/- What bytes are decoded to, plainly. -/
import Derived.Test.YtpakcmcoafbgkaaCp
namespace Go.Proofs.Ytpakcmcoafbgkaa.Cx
open Go.RowKit

/-- Form 1. -/
def runsD : Nat → List Int → List Int → List Int → Except Int (List Int × List Int)
  | 0, b, _, out => .ok (b, out)
  | f + 1, b, pal, out =>
    if out.length < 32768 then
      if b.length = 0 then .error 3
      else if 0 < (getN b).1 ∧ (getN b).1 ≤ 32768 - (out.length : Int) then
        if (b.drop (getN b).2.toNat).length = 0 then .error 3
        else if (b.drop (getN b).2.toNat).getD 0 0 < (pal.length : Int) then
          runsD f ((b.drop (getN b).2.toNat).drop 1) pal (out ++ List.replicate (getN b).1.toNat (pal.getD ((b.drop (getN b).2.toNat).getD 0 0).toNat 0))
        else .error 4
      else .error 4
    else .ok (b, out)
theorem runsD_stop (f : Nat) (b pal out : List Int) (h : ¬ out.length < 32768) : runsD f b pal out = .ok (b, out) := by
  cases f with
  | zero => rfl
  | succ f => unfold runsD; rw [if_neg h]

/-- Form 2: places. -/
def placesOf (w : Nat) : Nat → Int → List Int
  | 0, _ => []
  | k + 1, v => v % 2 ^ w :: placesOf w k (v / 2 ^ w)
def putP (pal : List Int) : List Int → List Int → Except Int (List Int)
  | [], out => .ok out
  | p :: ps, out => if p < (pal.length : Int) then putP pal ps (out ++ [pal.getD p.toNat 0]) else .error 4
theorem putP_append (pal : List Int) : ∀ (ps qs out : List Int), putP pal (ps ++ qs) out = match putP pal ps out with | .ok o => putP pal qs o | .error c => .error c
  | [], qs, out => rfl
  | p :: ps, qs, out => by
    simp only [List.cons_append, putP]
    split
    · exact putP_append pal ps qs _
    · rfl
/-- How many bits a place has. -/
def widthN (n : Nat) : Nat := if n ≤ 2 then 1 else if n ≤ 4 then 2 else if n ≤ 16 then 4 else 8
def bitsD (w : Nat) (b pal out : List Int) : Except Int (List Int) := putP pal (b.flatMap (placesOf w (8 / w))) out

/-- Kinds that are, rising. -/
def PalOk (pal : List Int) : Prop := ∀ i, i < pal.length → pal.getD i 0 ≤ 16 ∧ (i = 0 ∨ pal.getD (i - 1) 0 < pal.getD i 0)

def formD (f : Int) (r pal : List Int) : Except Int (List Int) :=
  if f = 1 then
    match runsD 32768 r pal [] with
    | .error c => .error c
    | .ok (r', out) => if r'.length = 0 then .ok out else .error 2
  else if r.length < 4096 * widthN pal.length then .error 3
  else match bitsD (widthN pal.length) (r.take (4096 * widthN pal.length)) pal [] with
    | .error c => .error c
    | .ok out => if r.length ≤ 4096 * widthN pal.length then .ok out else .error 2
open Classical in
noncomputable def dec (b : List Int) : Except Int (List Int) :=
  if b.length < 2 then .error 3
  else if (b.getD 0 0 = 1 ∨ b.getD 0 0 = 2) ∧ 1 ≤ b.getD 1 0 ∧ b.getD 1 0 ≤ 17 then
    if b.length < 2 + (b.getD 1 0).toNat then .error 3
    else if PalOk ((b.drop 2).take (b.getD 1 0).toNat) then formD (b.getD 0 0) (b.drop (2 + (b.getD 1 0).toNat)) ((b.drop 2).take (b.getD 1 0).toNat)
    else .error 4
  else .error 4

/-! What is decoded is 32768 cells, each out of the kinds. -/
theorem runsD_len : ∀ (f : Nat) (b pal out r' o : List Int), runsD f b pal out = .ok (r', o) → out.length ≤ 32768 → 32768 ≤ out.length + f → o.length = 32768
  | 0, b, pal, out, r', o, h, h1, h2 => by injection h with h; injection h with _ h; subst h; omega
  | f + 1, b, pal, out, r', o, h, h1, h2 => by
    unfold runsD at h
    split at h
    · split at h
      · cases h
      · split at h
        · rename_i hn
          split at h
          · cases h
          · split at h
            · refine runsD_len f _ _ _ _ _ h ?_ ?_ <;> (rw [List.length_append, List.length_replicate]; omega)
            · cases h
        · cases h
    · injection h with h; injection h with _ h; subst h; omega
theorem runsD_mem (Q : Int → Prop) : ∀ (f : Nat) (b pal out r' o : List Int), runsD f b pal out = .ok (r', o) → (∀ x ∈ pal, Q x) → (∀ x ∈ b, 0 ≤ x) → (∀ x ∈ out, Q x) → ∀ x ∈ o, Q x
  | 0, b, pal, out, r', o, h, _, _, hq => by injection h with h; injection h with _ h; subst h; exact hq
  | f + 1, b, pal, out, r', o, h, hp, hb, hq => by
    unfold runsD at h
    split at h
    · split at h
      · cases h
      · split at h
        · split at h
          · cases h
          · split at h
            · rename_i hne hlt
              have h0 : 0 ≤ (b.drop (getN b).2.toNat).getD 0 0 := by
                rw [List.getD_eq_getElem?_getD, List.getElem?_eq_getElem (show 0 < (b.drop (getN b).2.toNat).length by omega)]
                exact hb _ (List.mem_of_mem_drop (List.getElem_mem _))
              refine runsD_mem Q f _ _ _ _ _ h hp (fun x hx => hb x (List.mem_of_mem_drop (List.mem_of_mem_drop hx))) ?_
              intro x hx
              rcases List.mem_append.1 hx with hx | hx
              · exact hq x hx
              · obtain rfl := (List.mem_replicate.1 hx).2
                rw [List.getD_eq_getElem?_getD, List.getElem?_eq_getElem (show ((b.drop (getN b).2.toNat).getD 0 0).toNat < pal.length by omega)]
                exact hp _ (List.getElem_mem _)
            · cases h
        · cases h
    · injection h with h; injection h with _ h; subst h; exact hq
theorem putP_len (pal : List Int) : ∀ (ps out o : List Int), putP pal ps out = .ok o → o.length = out.length + ps.length
  | [], out, o, h => by injection h with h; subst h; simp
  | p :: ps, out, o, h => by
    unfold putP at h
    split at h
    · rw [putP_len pal ps _ o h, List.length_append]; simp; omega
    · cases h
theorem putP_mem (Q : Int → Prop) (pal : List Int) (hp : ∀ x ∈ pal, Q x) : ∀ (ps out o : List Int), putP pal ps out = .ok o → (∀ p ∈ ps, 0 ≤ p) → (∀ x ∈ out, Q x) → ∀ x ∈ o, Q x
  | [], out, o, h, _, hq => by injection h with h; subst h; exact hq
  | p :: ps, out, o, h, h0, hq => by
    unfold putP at h
    split at h
    · refine putP_mem Q pal hp ps _ o h (fun q hq => h0 q (by simp [hq])) ?_
      intro x hx
      rcases List.mem_append.1 hx with hx | hx
      · exact hq x hx
      · rw [List.mem_singleton] at hx
        subst hx
        have := h0 p (by simp)
        rw [List.getD_eq_getElem?_getD, List.getElem?_eq_getElem (show p.toNat < pal.length by omega)]
        exact hp _ (List.getElem_mem _)
    · cases h
theorem placesOf_len (w : Nat) : ∀ (k : Nat) (v : Int), (placesOf w k v).length = k
  | 0, _ => rfl
  | k + 1, v => by simp [placesOf, placesOf_len w k]
theorem placesOf_nonneg (w : Nat) : ∀ (k : Nat) (v : Int), ∀ p ∈ placesOf w k v, 0 ≤ p
  | 0, _, p, hp => by cases hp
  | k + 1, v, p, hp => by
    rcases List.mem_cons.1 hp with rfl | hp
    · exact Int.emod_nonneg _ (Int.ne_of_gt (Int.pow_pos (by decide)))
    · exact placesOf_nonneg w k _ p hp
theorem flat_len (w k : Nat) : ∀ b : List Int, (b.flatMap (placesOf w k)).length = b.length * k
  | [] => by simp
  | v :: b => by rw [List.flatMap_cons, List.length_append, placesOf_len, flat_len w k b, List.length_cons, Nat.succ_mul]; omega
theorem widthN_cases (n : Nat) : widthN n = 1 ∨ widthN n = 2 ∨ widthN n = 4 ∨ widthN n = 8 := by
  unfold widthN; split
  · simp
  · split
    · simp
    · split <;> simp
theorem dec_ok {b o : List Int} (hb : Bytes b) (h : dec b = .ok o) : o.length = 32768 ∧ ∀ x ∈ o, 0 ≤ x ∧ x ≤ 16 := by
  unfold dec at h
  split at h
  · cases h
  split at h
  · rename_i hn
    split at h
    · cases h
    split at h
    · rename_i hp
      have hpal : ∀ x ∈ (b.drop 2).take (b.getD 1 0).toNat, 0 ≤ x ∧ x ≤ 16 := by
        intro x hx
        refine ⟨((hb.drop 2).take _ x hx).1, ?_⟩
        obtain ⟨i, hi, rfl⟩ := List.mem_iff_getElem.1 hx
        have := (hp i hi).1
        rw [List.getD_eq_getElem?_getD, List.getElem?_eq_getElem hi] at this
        exact this
      have hr : ∀ x ∈ b.drop (2 + (b.getD 1 0).toNat), 0 ≤ x := fun x hx => (hb x (List.mem_of_mem_drop hx)).1
      unfold formD at h
      split at h
      · split at h
        · cases h
        · rename_i r' out he
          split at h
          · injection h with h; subst h
            exact ⟨runsD_len _ _ _ _ _ _ he (by simp) (by simp), runsD_mem _ _ _ _ _ _ _ he hpal hr (by simp)⟩
          · cases h
      · split at h
        · cases h
        · rename_i hlen
          split at h
          · cases h
          · rename_i out he
            split at h
            · injection h with h; subst h
              unfold bitsD at he
              refine ⟨?_, putP_mem _ _ hpal _ _ _ he ?_ (by simp)⟩
              · rw [putP_len _ _ _ _ he, flat_len, List.length_take, Nat.min_eq_left (by omega)]
                rcases widthN_cases ((b.drop 2).take (b.getD 1 0).toNat).length with e | e | e | e <;> rw [e] <;> rfl
              · intro p hp
                obtain ⟨v, _, hv⟩ := List.mem_flatMap.1 hp
                exact placesOf_nonneg _ _ _ p hv
            · cases h
    · cases h
  · cases h
end Go.Proofs.Ytpakcmcoafbgkaa.Cx
