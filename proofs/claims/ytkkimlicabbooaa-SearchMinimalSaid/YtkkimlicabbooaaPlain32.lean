/-
  Plain words of package search: a core contradicts itself, and without any one of its accounts it does not. No program in sight.
-/
import Derived.Test.YtkkimlicabbooaaPlain31
namespace Bs
set_option linter.unusedVariables false
set_option linter.unusedSimpArgs false

theorem mem_insI {x y : Int} : ∀ (l : List Int), y ∈ insI x l ↔ y = x ∨ y ∈ l
  | [] => by simp [insI]
  | z :: r => by
    unfold insI
    split
    · simp
    · rw [List.mem_cons, mem_insI r, List.mem_cons]
      constructor
      · rintro (h | h | h)
        · exact .inr (.inl h)
        · exact .inl h
        · exact .inr (.inr h)
      · rintro (h | h | h)
        · exact .inr (.inl h)
        · exact .inl h
        · exact .inr (.inr h)
theorem mem_sortI {y : Int} (l : List Int) : y ∈ sortI l ↔ y ∈ l := by
  have : ∀ (l s : List Int), y ∈ l.foldl (fun s x => insI x s) s ↔ y ∈ s ∨ y ∈ l := by
    intro l
    induction l with
    | nil => intro s; simp
    | cons a r ih =>
      intro s
      rw [List.foldl_cons, ih, mem_insI, List.mem_cons]
      constructor
      · rintro ((h | h) | h)
        · exact .inr (.inl h)
        · exact .inl h
        · exact .inr (.inr h)
      · rintro (h | h | h)
        · exact .inl (.inr h)
        · exact .inl (.inl h)
        · exact .inr h
  unfold sortI
  rw [this]; simp
theorem mem_compactI {y : Int} : ∀ l : List Int, y ∈ compactI l ↔ y ∈ l
  | [] => Iff.rfl
  | [x] => Iff.rfl
  | x :: z :: r => by
    unfold compactI
    split
    · rename_i h
      subst h
      rw [mem_compactI (x :: r)]; simp
    · rw [List.mem_cons, mem_compactI (z :: r), List.mem_cons]
      simp
theorem mem_ids {p : Prob} {x : Int} : x ∈ idsP p ↔ (∃ f ∈ p.facts, f.id = x) ∧ 0 < x := by
  unfold idsP
  rw [mem_compactI, mem_sortI, List.mem_filter, List.mem_map]
  simp
theorem formed_id {f : Fct} {n : Int} (h : formedB f n = true) : 0 ≤ f.id := by
  simp only [formedB, Bool.and_eq_true, withinB, decide_eq_true_eq] at h
  exact h.1.1
theorem pick_all {p : Prob} (hc : checkP p = 0) : pickP p (keepP (idsP p)) = p := by
  obtain ⟨_, _, _, h4⟩ := check_zero hc
  have hf := fm_of h4
  obtain ⟨bs, fs⟩ := p
  unfold pickP
  congr 1
  rw [List.filter_eq_self]
  intro f hm
  have h0 := formed_id (hf f hm)
  unfold keepP hasP
  by_cases e : f.id = 0
  · simp [e]
  · have : f.id ∈ idsP ⟨bs, fs⟩ := mem_ids.2 ⟨⟨f, hm, rfl⟩, by omega⟩
    simp [this]
theorem check_pick {p : Prob} (hc : checkP p = 0) (keep : Int → Bool) : checkP (pickP p keep) = 0 := by
  obtain ⟨h1, h2, h3, h4⟩ := check_zero hc
  have hf := fm_of h4
  have hl : (p.facts.filter fun f => keep f.id).length ≤ p.facts.length := List.length_filter_le _ _
  refine check_ok (by show ¬ (12 < p.boxes.length ∨ 60 < (p.facts.filter fun f => keep f.id).length); omega) h3 (fun k hk => ?_)
  have hk : k < (p.facts.filter fun f => keep f.id).length := hk
  have hm : rFct (p.facts.filter fun f => keep f.id) (k : Int) ∈ p.facts.filter fun f => keep f.id := by rw [rFct_nat]; exact mem_get hk
  exact hf _ (List.mem_filter.1 hm).1
theorem mem_others {l : List Int} {x id : Int} : x ∈ othersP l id ↔ x ∈ l ∧ x ≠ id := by
  unfold othersP
  rw [List.mem_filter]; simp
theorem pick_sub {p : Prob} {a b : List Int} (h : ∀ x ∈ a, x ∈ b) : ∀ f ∈ (pickP p (keepP a)).facts, f ∈ (pickP p (keepP b)).facts := by
  intro f hf
  unfold pickP at hf ⊢
  obtain ⟨h1, h2⟩ := List.mem_filter.1 hf
  refine List.mem_filter.2 ⟨h1, ?_⟩
  unfold keepP hasP at h2 ⊢
  simp only [Bool.or_eq_true, beq_iff_eq, decide_eq_true_eq] at h2 ⊢
  exact h2.imp id (h _)
theorem core_inv {p : Prob} (hc : checkP p = 0) : ∀ (todo left l : List Int), (findP (pickP p (keepP left))).err = 0 → (findP (pickP p (keepP left))).empty = true → coreGo p todo left = (l, 0) →
    (findP (pickP p (keepP l))).err = 0 ∧ (findP (pickP p (keepP l))).empty = true ∧ (∀ x ∈ l, x ∈ left) ∧ ∀ id ∈ todo, id ∈ l → ∃ s, Sol (pickP p (keepP (othersP l id))).facts p.boxes s
  | [], left, l, he, hm, h => by
    unfold coreGo at h
    obtain ⟨rfl, _⟩ := Prod.mk.inj h
    exact ⟨he, hm, fun _ h => h, fun id h => by cases h⟩
  | id :: r, left, l, he, hm, h => by
    unfold coreGo at h
    by_cases h0 : (findP (pickP p (keepP (othersP left id)))).err = 0
    · rw [if_pos h0] at h
      by_cases h1 : (findP (pickP p (keepP (othersP left id)))).empty = true
      · rw [if_pos h1] at h
        obtain ⟨a, b, c, d⟩ := core_inv hc r _ l h0 h1 h
        refine ⟨a, b, fun x hx => (mem_others.1 (c x hx)).1, fun i hi hl => ?_⟩
        rcases List.mem_cons.1 hi with rfl | hi
        · exact absurd rfl (mem_others.1 (c _ hl)).2
        · exact d i hi hl
      · rw [if_neg h1] at h
        obtain ⟨a, b, c, d⟩ := core_inv hc r _ l he hm h
        refine ⟨a, b, c, fun i hi hl => ?_⟩
        rcases List.mem_cons.1 hi with rfl | hi
        · have hs : ∃ s, Sol (pickP p (keepP (othersP left i))).facts p.boxes s := Classical.byContradiction (fun hx => h1 ((find_empty (check_pick hc _) h0).2 (fun s hm => hx ⟨s, hm⟩)))
          obtain ⟨s, hs⟩ := hs
          exact ⟨s, hs.fewer (pick_sub (fun x hx => mem_others.2 ⟨c x (mem_others.1 hx).1, (mem_others.1 hx).2⟩))⟩
        · exact d i hi hl
    · rw [if_neg h0] at h
      exact absurd (Prod.mk.inj h).2 h0
theorem core_nil {p : Prob} (h : (coreP p).2 ≠ 0) : (coreP p).1 = [] := by
  have go : ∀ (todo left : List Int), (coreGo p todo left).2 ≠ 0 → (coreGo p todo left).1 = [] := by
    intro todo
    induction todo with
    | nil => intro left h; exact absurd rfl h
    | cons id r ih =>
      intro left h
      unfold coreGo at h ⊢
      split
      · rename_i h0; rw [if_pos h0] at h; exact ih _ h
      · rfl
  unfold coreP at h ⊢
  split
  · rename_i h1
    rw [if_pos h1] at h
    split
    · rename_i h2; rw [if_pos h2] at h; exact go _ _ h
    · rfl
  · rfl
theorem find_err (p : Prob) : (findP p).err = 0 ∨ (findP p).err = 2 := by
  unfold findP
  split
  · exact .inl rfl
  · split
    · exact .inr rfl
    · exact .inl rfl
/-- What the theorem asks of a core. -/
theorem minimal_law {p : Prob} (h : (coreP p).2 = 0) : checkP p = 0 ∧ (solveP (pickP p (keepP (coreP p).1))).2 = 9 ∧
    ∀ i : Nat, i < (coreP p).1.length → (solveP (pickP (pickP p (keepP (coreP p).1)) (fun n => !hasP [rInt (coreP p).1 i] n))).2 = 0 ∨ (solveP (pickP (pickP p (keepP (coreP p).1)) (fun n => !hasP [rInt (coreP p).1 i] n))).2 = 2 := by
  have he : (solvedP p).err = 0 := by
    unfold coreP at h
    split at h
    · rename_i h1; exact h1
    · rename_i h1; exact absurd h h1
  obtain ⟨hc, hs⟩ := solved_ok he
  have hem : (solvedP p).empty = true := by
    unfold coreP at h
    rw [if_pos he] at h
    cases hx : (solvedP p).empty with
    | true => rfl
    | false => rw [hx] at h; simp at h
  have hg : coreP p = coreGo p (idsP p) (idsP p) := by unfold coreP; rw [if_pos he, if_pos hem]
  rw [hs] at he hem
  generalize hl : (coreP p).1 = l at *
  have hgo : coreGo p (idsP p) (idsP p) = (l, 0) := by rw [← hg]; exact Prod.ext hl h
  obtain ⟨a, b, c, d⟩ := core_inv hc (idsP p) (idsP p) l (by rw [pick_all hc]; exact he) (by rw [pick_all hc]; exact hem) hgo
  have solved_find : ∀ q : Prob, checkP q = 0 → solvedP q = findP q := fun q hq => by unfold solvedP; rw [if_pos hq]
  refine ⟨hc, ?_, fun i hi => ?_⟩
  · unfold solveP
    rw [solved_find _ (check_pick hc _), if_pos a, if_pos b]
  · have him : rInt l i ∈ l := by rw [rInt_nat]; exact mem_get hi
    have hid := c _ him
    have hpos := (mem_ids.1 hid).2
    obtain ⟨s, hsol⟩ := d _ hid him
    have er : pickP (pickP p (keepP l)) (fun n => !hasP [rInt l i] n) = pickP p (keepP (othersP l (rInt l i))) := by
      unfold pickP
      dsimp only
      congr 1
      rw [List.filter_filter]
      refine List.filter_congr (fun f hf => ?_)
      unfold keepP hasP othersP
      rw [Bool.eq_iff_iff]
      simp only [Bool.and_eq_true, Bool.or_eq_true, Bool.not_eq_true', decide_eq_true_eq, decide_eq_false_iff_not, beq_iff_eq, List.mem_singleton, List.mem_filter]
      constructor
      · rintro ⟨h1, h2 | h2⟩
        · exact .inl h2
        · exact .inr ⟨h2, by simpa using h1⟩
      · rintro (h1 | ⟨h1, h2⟩)
        · exact ⟨by omega, .inl h1⟩
        · exact ⟨by simpa using h2, .inr h1⟩
    rw [er]
    unfold solveP
    rw [solved_find _ (check_pick hc _)]
    rcases find_err (pickP p (keepP (othersP l (rInt l i)))) with h0 | h0
    · left
      rw [if_pos h0]
      have : ¬ (findP (pickP p (keepP (othersP l (rInt l i))))).empty = true := fun hx => (find_empty (check_pick hc _) h0).1 hx s hsol
      rw [if_neg this]
    · right
      rw [if_neg (by omega)]
      exact h0
end Bs
