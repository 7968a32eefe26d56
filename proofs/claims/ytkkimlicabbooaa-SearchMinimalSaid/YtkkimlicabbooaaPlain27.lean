/-
  Plain words of package search: with one more fact there are not more solutions, no hull is larger, what was decided stays. No program in sight.
-/
import Derived.Test.YtkkimlicabbooaaPlain26
namespace Bs
set_option linter.unusedVariables false
set_option linter.unusedSimpArgs false

theorem Sol.fewer {fs gs : List Fct} {l : List Bx} {s : List Pt} (h : Sol gs l s) (hs : ∀ f ∈ fs, f ∈ gs) : Sol fs l s := ⟨h.len, h.box, fun f hf => h.fact f (hs f hf)⟩
theorem count_fewer {p q : Prob} {n m : Int} (hb : q.boxes = p.boxes) (hs : ∀ f ∈ p.facts, f ∈ q.facts) (h : countP p = (n, 0)) (k : countP q = (m, 0)) : m ≤ n := by
  obtain ⟨_, _, L, h1, h2, rfl⟩ := count_sem h
  obtain ⟨_, _, M, k1, k2, rfl⟩ := count_sem k
  have := nodup_len M L k1 (fun s hm => (h2 s).2 (by have := ((k2 s).1 hm).fewer hs; rwa [hb] at this))
  omega
/-- What Hull returns if it returns no error. -/
theorem hull_ok {p : Prob} (h : (hullP p).2 = 0) : checkP p = 0 ∧ (findP p).err = 0 ∧ (findP p).empty = false ∧ (hullP p).1.length = p.boxes.length ∧ ∀ k : Nat, k < p.boxes.length → IsHull (Sol p.facts p.boxes) (k : Int) (rBx (hullP p).1 k) := by
  have he : (solvedP p).err = 0 := by
    unfold hullP at h
    dsimp only at h
    split at h
    · rename_i h1; exact h1
    · exact h
  obtain ⟨hc, hs⟩ := solved_ok he
  have hem : (solvedP p).empty = false := by
    unfold hullP at h
    dsimp only at h
    rw [if_pos he] at h
    cases hx : (solvedP p).empty with
    | false => rfl
    | true => rw [hx] at h; simp at h
  have e : (hullP p).1 = (allP p.boxes.length).map (fun i => (hullAt (findP p).parts i).1) := by
    unfold hullP
    dsimp only
    rw [if_pos he, hem, if_neg (by simp), hs]
  rw [hs] at he hem
  refine ⟨hc, he, hem, by rw [e, List.length_map, allP_length], fun k hk => ?_⟩
  have e2 : rBx (hullP p).1 (k : Int) = (hullAt (findP p).parts (k : Int)).1 := by
    rw [e, rBx_nat, List.getD_eq_getElem?_getD, List.getElem?_map]
    unfold allP
    rw [List.getElem?_map, List.getElem?_range hk]
    rfl
  rw [e2]
  rcases find_cases hc he with ⟨_, h2⟩ | ⟨l, hg⟩
  · rw [h2] at hem; cases hem
  · exact hg.hull hem (by omega) (by omega)
theorem hull_lies {p q : Prob} (hb : q.boxes = p.boxes) (hs : ∀ f ∈ p.facts, f ∈ q.facts) (h : (hullP p).2 = 0) (k : (hullP q).2 = 0) : SubL (hullP q).1 (hullP p).1 := by
  obtain ⟨_, _, _, h1, h2⟩ := hull_ok h
  obtain ⟨_, _, _, k1, k2⟩ := hull_ok k
  refine ⟨by rw [h1, k1, hb], fun i hi => ?_⟩
  rw [k1] at hi
  refine (k2 i hi).mono (h2 i (by rw [← hb]; exact hi)) (fun s hm => ?_)
  have := hm.fewer hs
  rwa [hb] at this
theorem further_zero {p : Prob} {f : Fct} (h : furtherP p f = 0) : checkP p = 0 ∧ formedB f p.boxes.length = true ∧ p.facts.length < 60 := by
  unfold furtherP at h
  split at h
  · rename_i hc
    split at h
    · rename_i hf
      split at h
      · omega
      · exact ⟨hc, hf, by omega⟩
    · omega
  · rename_i hc; exact absurd h hc
theorem chk_with {p : Prob} {f : Fct} (h : furtherP p f = 0) (t : Bool) : checkP (withP p f t) = 0 := by
  obtain ⟨hc, hf, hl⟩ := further_zero h
  obtain ⟨h1, h2, h3, h4⟩ := check_zero hc
  refine check_ok (by simp [withP]; omega) h3 (fun k hk => ?_)
  simp only [withP, List.length_append, List.length_cons, List.length_nil] at hk
  by_cases e : k < p.facts.length
  · have := h4 k e
    have e2 : rFct (withP p f t).facts (k : Int) = rFct p.facts (k : Int) := by
      rw [rFct_nat, rFct_nat]
      simp only [withP]
      rw [List.getD_eq_getElem?_getD, List.getD_eq_getElem?_getD, List.getElem?_append_left e]
    rw [e2]; exact this
  · obtain rfl : k = p.facts.length := by omega
    have e2 : rFct (withP p f t).facts (p.facts.length : Int) = { f with no := f.no != t } := by
      rw [rFct_nat]
      simp [withP]
    rw [e2]; exact hf
/-- What Decide says of the solutions. -/
structure Decided (p : Prob) (f : Fct) (x : Int) : Prop where
  chk : checkP p = 0
  formed : formedB f p.boxes.length = true
  some_ : ∃ s, Sol p.facts p.boxes s
  yes : x = 2 ↔ ∀ s, ¬ Sol (withP p f true).facts p.boxes s
  no_ : x = 1 ↔ (∃ s, Sol (withP p f true).facts p.boxes s) ∧ ∀ s, ¬ Sol (withP p f false).facts p.boxes s
  one : x = 1 ∨ x = 2 ∨ x = 3
theorem decide_ok {p : Prob} {f : Fct} {x : Int} (h : decideP p f = (x, 0)) : Decided p f x := by
  unfold decideP at h
  by_cases hf : furtherP p f = 0
  · obtain ⟨hc, hfm, hl⟩ := further_zero hf
    rw [if_pos hf] at h
    dsimp only at h
    by_cases he : (findP p).err = 0 ∧ (findP (withP p f false)).err = 0 ∧ (findP (withP p f true)).err = 0
    · rw [if_pos he] at h
      obtain ⟨e1, e2, e3⟩ := he
      have a1 := find_empty hc e1
      have a2 := find_empty (chk_with hf false) e2
      have a3 := find_empty (chk_with hf true) e3
      have bb : ∀ t, (withP p f t).boxes = p.boxes := fun _ => rfl
      rw [bb] at a2 a3
      by_cases m1 : (findP p).empty = true
      · rw [if_pos m1] at h; simp at h
      · rw [if_neg m1] at h
        have hs : ∃ s, Sol p.facts p.boxes s := Classical.byContradiction (fun hx => m1 (a1.2 (fun s hm => hx ⟨s, hm⟩)))
        by_cases m3 : (findP (withP p f true)).empty = true
        · rw [if_pos m3] at h
          have hx : x = 2 := by simpa using h.symm
          subst hx
          refine ⟨hc, hfm, hs, ⟨fun _ => a3.1 m3, fun _ => rfl⟩, ⟨fun h => by omega, fun h => ?_⟩, by omega⟩
          obtain ⟨⟨s, hm⟩, _⟩ := h
          exact absurd hm (a3.1 m3 s)
        · rw [if_neg m3] at h
          have h3 : ∃ s, Sol (withP p f true).facts p.boxes s := Classical.byContradiction (fun hx => m3 (a3.2 (fun s hm => hx ⟨s, hm⟩)))
          by_cases m2 : (findP (withP p f false)).empty = true
          · rw [if_pos m2] at h
            have hx : x = 1 := by simpa using h.symm
            subst hx
            refine ⟨hc, hfm, hs, ⟨fun h => by omega, fun h => ?_⟩, ⟨fun _ => ⟨h3, a2.1 m2⟩, fun _ => rfl⟩, by omega⟩
            obtain ⟨s, hm⟩ := h3
            exact absurd hm (h s)
          · rw [if_neg m2] at h
            have hx : x = 3 := by simpa using h.symm
            subst hx
            refine ⟨hc, hfm, hs, ⟨fun h => by omega, fun h => ?_⟩, ⟨fun h => by omega, fun h => absurd (a2.2 h.2) m2⟩, by omega⟩
            obtain ⟨s, hm⟩ := h3
            exact absurd hm (h s)
    · rw [if_neg he] at h; simp at h
  · rw [if_neg hf] at h
    exact absurd (Prod.mk.inj h).2 hf
theorem decide_stays {p q : Prob} {g : Fct} {x y : Int} (hb : q.boxes = p.boxes) (hs : ∀ f ∈ p.facts, f ∈ q.facts) (h : decideP p g = (x, 0)) (k : decideP q g = (y, 0)) : x = 3 ∨ x = y := by
  have h1 := decide_ok h
  have k1 := decide_ok k
  have sub : ∀ t s, Sol (withP q g t).facts q.boxes s → Sol (withP p g t).facts p.boxes s := by
    intro t s hm
    have := hm.fewer (fs := (withP p g t).facts) (fun f hf => by
      simp only [withP, List.mem_append, List.mem_singleton] at hf ⊢
      rcases hf with hf | hf
      · exact .inl (hs f hf)
      · exact .inr hf)
    rwa [hb] at this
  rcases h1.one with rfl | rfl | rfl
  · right
    obtain ⟨_, hn⟩ := h1.no_.1 rfl
    obtain ⟨s, hm⟩ := k1.some_
    have hq : ∀ s, ¬ Sol (withP q g false).facts q.boxes s := fun s hm => hn s (sub false s hm)
    have hf := k1.formed
    have hl := hm.len
    have ht : Sol (withP q g true).facts q.boxes s := by
      refine ⟨hm.len, hm.box, fun f hf2 => ?_⟩
      simp only [withP, List.mem_append, List.mem_singleton] at hf2
      rcases hf2 with hf2 | rfl
      · exact hm.fact f hf2
      · have e : ({ g with no := g.no != true } : Fct) = { g with no := !g.no } := by cases g.no <;> rfl
        rw [e, fails_against (by rw [hl]; exact hf)]
        cases hx : failsP g (aloneP s) with
        | true => rfl
        | false =>
          refine absurd ⟨hm.len, hm.box, fun f hf3 => ?_⟩ (hq s)
          simp only [withP, List.mem_append, List.mem_singleton] at hf3
          rcases hf3 with hf3 | rfl
          · exact hm.fact f hf3
          · have e : ({ g with no := g.no != false } : Fct) = g := by cases g; simp
            rw [e]; exact hx
    exact (k1.no_.2 ⟨⟨s, ht⟩, hq⟩).symm
  · right
    have := h1.yes.1 rfl
    exact (k1.yes.2 (fun s hm => this s (sub true s hm))).symm
  · exact .inl rfl
end Bs
