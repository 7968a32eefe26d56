/-
  Plain words of package search: a solution put together; cores. No program in sight.
-/
import Derived.Test.YtkkimlicabbooaaPlain27
namespace Bs
set_option linter.unusedVariables false
set_option linter.unusedSimpArgs false

def pickOf (part : Int) (of_ : List Pt) (k : Nat) (s : Seen) : List Pt := if (k : Int) = part then of_ else s.one
/-- The solution that consists of some solution of each part (of a given one for one of them), behind the first k parts. -/
def solTo (xs : List Seen) (N : Nat) (part : Int) (of_ : List Pt) : Nat → List Pt
  | 0 => List.replicate N ⟨0, 0⟩
  | k + 1 => putS (rSeen xs k).part (pickOf part of_ k (rSeen xs k)) (solTo xs N part of_ k)
def solutionP (xs : List Seen) (N : Nat) (part : Int) (of_ : List Pt) : List Pt := solTo xs N part of_ xs.length
theorem putS_snoc : ∀ (r : List Int) (t s : List Pt) (i : Int) (x : Pt), t.length = r.length → putS (r ++ [i]) (t ++ [x]) s = (putS r t s).set i.toNat x
  | [], [], _, _, _, _ => rfl
  | [], _ :: _, _, _, _, h => by simp at h
  | _ :: _, [], _, _, _, h => by simp at h
  | j :: r, y :: t, s, i, x, h => by
    show putS (r ++ [i]) (t ++ [x]) (s.set j.toNat y) = _
    rw [putS_snoc r t _ i x (by simpa using h)]; rfl
theorem putS_more : ∀ (r : List Int) (t s : List Pt), r.length ≤ t.length → putS r t s = putS r (t.take r.length) s
  | [], _, _, _ => by simp [putS]
  | _ :: _, [], _, h => by simp at h
  | j :: r, y :: t, s, h => by
    show putS r t (s.set j.toNat y) = putS r (t.take r.length) (s.set j.toNat y)
    exact putS_more r t _ (by simpa using h)
theorem putS_step {part : List Int} {l s : List Pt} {j : Nat} (h : j < part.length) (hl : part.length ≤ l.length) : putS (part.take (j + 1)) (l.take (j + 1)) s = (putS (part.take j) (l.take j) s).set (rInt part j).toNat (rPt l j) := by
  rw [take_get (z := 0) h, take_get (z := ⟨0, 0⟩) (show j < l.length by omega), putS_snoc _ _ _ _ _ (by simp; omega), rInt_nat, rPt_nat]
theorem putS_all {part : List Int} {l s : List Pt} (hl : part.length ≤ l.length) : putS (part.take part.length) (l.take part.length) s = putS part l s := by
  rw [List.take_length, ← putS_more part l s hl]
theorem solTo_length (xs : List Seen) (N : Nat) (part : Int) (of_ : List Pt) : ∀ k, (solTo xs N part of_ k).length = N
  | 0 => by simp [solTo]
  | k + 1 => by unfold solTo; rw [putS_length, solTo_length xs N part of_ k]
/-- Solve: the points and the error. -/
def solveP (p : Prob) : List Pt × Int := if (solvedP p).err = 0 then (if (solvedP p).empty then ([], 9) else (solutionP (solvedP p).parts p.boxes.length (-1) [], 0)) else ([], (solvedP p).err)
/-- What is asked of the parts that are put together. -/
def OneOk (N : Nat) (s : Seen) : Prop := s.part.length ≤ s.one.length ∧ ∀ i ∈ s.part, 0 ≤ i ∧ i < (N : Int)
theorem look_one {xs : List (List Pt)} (h : xs ≠ []) : (xs.foldl seeP see0).one ∈ xs := by
  cases xs with
  | nil => exact absurd rfl h
  | cons a r =>
    rw [List.foldl_cons, see_one r _ (by show 1 ≤ (0 : Int) + 1; omega)]
    have : (seeP see0 a).one = a := by show (if (0 : Int) + 1 = 1 then a else []) = a; simp
    rw [this]; simp
theorem Gone.one {p : Prob} {l : List Bx} (h : Gone p l) (hne : (findP p).empty = false) : ∀ s ∈ (findP p).parts, OneOk p.boxes.length s := by
  intro s hs
  rw [h.eq] at hs
  obtain ⟨g, hg, rfl⟩ := List.mem_map.1 hs
  have hn : partS p.facts l g ≠ [] := fun e => by rw [h.empty.2 ⟨g, hg, e⟩] at hne; cases hne
  refine ⟨?_, fun i hi => ?_⟩
  · rw [seenP_part]
    by_cases h1 : g.length = 1
    · have e : (seenP p.facts l g).one = [⟨(rBx l (rInt g 0)).x.lo, (rBx l (rInt g 0)).y.lo⟩] := by unfold seenP; rw [if_pos h1]
      rw [e, h1]; simp
    · have e : (seenP p.facts l g).one = (lookSt p.facts l g).one := by unfold seenP; rw [if_neg h1]
      rw [e]
      have := partS_len g _ (look_one hn)
      exact Nat.le_of_eq this.symm
  · rw [seenP_part] at hi
    exact part_in hg hi
theorem solved_one {p : Prob} (he : (solvedP p).err = 0) (hne : (solvedP p).empty = false) : ∀ s ∈ (solvedP p).parts, OneOk p.boxes.length s := by
  obtain ⟨hc, hs⟩ := solved_ok he
  rw [hs] at he hne ⊢
  rcases find_cases hc he with ⟨_, h2⟩ | ⟨l, hg⟩
  · rw [h2] at hne; cases hne
  · exact hg.one hne
end Bs
