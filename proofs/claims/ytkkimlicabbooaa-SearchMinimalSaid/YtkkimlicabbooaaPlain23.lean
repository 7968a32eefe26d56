/-
  Plain words of package search: points that are connected by facts; the groups are the classes. No program in sight.
-/
import Derived.Test.YtkkimlicabbooaaPlain22
namespace Bs
set_option linter.unusedVariables false
set_option linter.unusedSimpArgs false

/-- The links of a fact. -/
def edgesF (f : Fct) : List (Int × Int) := if f.kind = 2 then [(f.a, f.b), (f.a, f.c)] else [(f.a, f.b)]
def edgesP (fs : List Fct) : List (Int × Int) := fs.flatMap edgesF
/-- Two points are connected. -/
inductive Con (E : List (Int × Int)) : Int → Int → Prop
  | refl (i : Int) : Con E i i
  | step {i j k : Int} : Con E i j → (j, k) ∈ E ∨ (k, j) ∈ E → Con E i k
theorem Con.trans {E : List (Int × Int)} {i j k : Int} (h : Con E i j) (h2 : Con E j k) : Con E i k := by
  induction h2 with
  | refl => exact h
  | step _ e ih => exact ih.step e
theorem Con.symm {E : List (Int × Int)} {i j : Int} (h : Con E i j) : Con E j i := by
  induction h with
  | refl => exact .refl _
  | step _ e ih => exact ((Con.refl _).step e.symm).trans ih
theorem Con.mono {E F : List (Int × Int)} (h : ∀ e ∈ E, e ∈ F) {i j : Int} (k : Con E i j) : Con F i j := by
  induction k with
  | refl => exact .refl _
  | step _ e ih => exact ih.step (e.imp (h _) (h _))
theorem Con.snoc {E : List (Int × Int)} {a b i j : Int} : Con (E ++ [(a, b)]) i j ↔ Con E i j ∨ (Con E i a ∧ Con E b j) ∨ (Con E i b ∧ Con E a j) := by
  constructor
  · intro h
    induction h with
    | refl => exact .inl (.refl _)
    | @step j k h1 e ih =>
      have e2 : ((j, k) ∈ E ∨ (k, j) ∈ E) ∨ (j = a ∧ k = b) ∨ (k = a ∧ j = b) := by
        rcases e with e | e
        · rcases List.mem_append.1 e with e | e
          · exact .inl (.inl e)
          · simp at e; exact .inr (.inl e)
        · rcases List.mem_append.1 e with e | e
          · exact .inl (.inr e)
          · simp at e; exact .inr (.inr e)
      rcases e2 with e | ⟨rfl, rfl⟩ | ⟨rfl, rfl⟩
      · rcases ih with h | ⟨h, k⟩ | ⟨h, k⟩
        · exact .inl (h.step e)
        · exact .inr (.inl ⟨h, k.step e⟩)
        · exact .inr (.inr ⟨h, k.step e⟩)
      · rcases ih with h | ⟨h, k⟩ | ⟨h, k⟩
        · exact .inr (.inl ⟨h, .refl _⟩)
        · exact .inr (.inl ⟨h, .refl _⟩)
        · exact .inl h
      · rcases ih with h | ⟨h, k⟩ | ⟨h, k⟩
        · exact .inr (.inr ⟨h, .refl _⟩)
        · exact .inl h
        · exact .inr (.inr ⟨h, .refl _⟩)
  · have m : ∀ {i j}, Con E i j → Con (E ++ [(a, b)]) i j := fun h => h.mono (fun e he => by simp [he])
    have ab : Con (E ++ [(a, b)]) a b := (Con.refl _).step (.inl (by simp))
    rintro (h | ⟨h, k⟩ | ⟨h, k⟩)
    · exact m h
    · exact ((m h).trans ab).trans (m k)
    · exact ((m h).trans ab.symm).trans (m k)
/-- The links of facts that are formed are between different points. -/
def EdgesIn (E : List (Int × Int)) (n : Int) : Prop := ∀ e ∈ E, (0 ≤ e.1 ∧ e.1 < n) ∧ (0 ≤ e.2 ∧ e.2 < n)
theorem Con.in_ {E : List (Int × Int)} {n : Int} (hE : EdgesIn E n) {i j : Int} (h : Con E i j) (hi : 0 ≤ i ∧ i < n) : 0 ≤ j ∧ j < n := by
  induction h with
  | refl => exact hi
  | step _ e _ =>
    rcases e with e | e
    · exact (hE _ e).2
    · exact (hE _ e).1
/-- What is asked of the groups: they are the classes, each named by its least point. -/
structure GrpOk (E : List (Int × Int)) (n : Nat) (g : List Int) : Prop where
  len : g.length = n
  same : ∀ i j : Int, 0 ≤ i → i < n → 0 ≤ j → j < n → (rInt g i = rInt g j ↔ Con E i j)
  le : ∀ i : Int, 0 ≤ i → i < n → rInt g i ≤ i
  con : ∀ i : Int, 0 ≤ i → i < n → Con E i (rInt g i)
  lo : ∀ i : Int, 0 ≤ i → i < n → 0 ≤ rInt g i
theorem rInt_map {g : List Int} {F : Int → Int} {i : Int} (h0 : 0 ≤ i) (h : i < g.length) : rInt (g.map F) i = F (rInt g i) := by
  unfold rInt
  have hl : i.toNat < g.length := by omega
  rw [List.getD_eq_getElem?_getD, List.getD_eq_getElem?_getD, List.getElem?_map, List.getElem?_eq_getElem hl]; rfl
theorem rInt_all {n : Nat} {i : Int} (h0 : 0 ≤ i) (h : i < n) : rInt (allP n) i = i := by
  unfold rInt allP
  have hl : i.toNat < n := by omega
  rw [List.getD_eq_getElem?_getD, List.getElem?_map, List.getElem?_range hl]
  show ((i.toNat : Nat) : Int) = i
  omega
theorem GrpOk.nil (n : Nat) : GrpOk [] n (allP n) := by
  refine ⟨allP_length n, fun i j h0 h1 k0 k1 => ?_, fun i h0 h1 => ?_, fun i h0 h1 => ?_, fun i h0 h1 => ?_⟩
  · rw [rInt_all h0 h1, rInt_all k0 k1]
    constructor
    · rintro rfl; exact .refl _
    · intro h
      induction h with
      | refl => rfl
      | step _ e _ => rcases e with e | e <;> cases e
  · rw [rInt_all h0 h1]; exact Int.le_refl _
  · rw [rInt_all h0 h1]; exact .refl _
  · rw [rInt_all h0 h1]; exact h0
theorem GrpOk.least {E : List (Int × Int)} {n : Nat} {g : List Int} (h : GrpOk E n g) {i j : Int} (h0 : 0 ≤ i) (h1 : i < n) (j0 : 0 ≤ j) (j1 : j < n) (hc : Con E i j) : rInt g i ≤ j := by
  rw [(h.same i j h0 h1 j0 j1).2 hc]; exact h.le j j0 j1
theorem GrpOk.unique {E F : List (Int × Int)} {n : Nat} {g k : List Int} (h : GrpOk E n g) (h2 : GrpOk F n k) (he : EdgesIn E n) (he2 : EdgesIn F n) (hEF : ∀ i j, Con E i j ↔ Con F i j) : g = k := by
  refine List.ext_getElem (by rw [h.len, h2.len]) (fun i h1 h3 => ?_)
  have hi : (i : Int) < n := by have := h.len; omega
  have e1 : rInt g (i : Int) = g[i] := by rw [rInt_nat, List.getD_eq_getElem?_getD, List.getElem?_eq_getElem h1]; rfl
  have e2 : rInt k (i : Int) = k[i] := by rw [rInt_nat, List.getD_eq_getElem?_getD, List.getElem?_eq_getElem h3]; rfl
  rw [← e1, ← e2]
  have c1 := h.con i (by omega) hi
  have c2 := h2.con i (by omega) hi
  have b1 := c1.in_ he ⟨by omega, hi⟩
  have b2 := c2.in_ he2 ⟨by omega, hi⟩
  have l1 := h.least (by omega) hi b2.1 b2.2 ((hEF _ _).2 c2)
  have l2 := h2.least (by omega) hi b1.1 b1.2 ((hEF _ _).1 c1)
  omega
theorem GrpOk.join {E : List (Int × Int)} {n : Nat} {g : List Int} (h : GrpOk E n g) {a b : Int} (ha : 0 ≤ a ∧ a < n) (hb : 0 ≤ b ∧ b < n) : GrpOk (E ++ [(a, b)]) n (joinP g a b) := by
  have hl := h.len
  have ev : ∀ i : Int, 0 ≤ i → i < n → rInt (joinP g a b) i = joinF (rInt g a) (rInt g b) (rInt g i) := fun i h0 h1 => rInt_map h0 (by omega)
  have sm := h.same
  refine ⟨by rw [joinP_length, hl], fun i j h0 h1 k0 k1 => ?_, fun i h0 h1 => ?_, fun i h0 h1 => ?_, fun i h0 h1 => ?_⟩
  · rw [ev i h0 h1, ev j k0 k1, Con.snoc, ← sm i j h0 h1 k0 k1, ← sm i a h0 h1 ha.1 ha.2, ← sm b j hb.1 hb.2 k0 k1, ← sm i b h0 h1 hb.1 hb.2, ← sm a j ha.1 ha.2 k0 k1]
    unfold joinF
    (repeat' split) <;> omega
  · rw [ev i h0 h1]
    have := h.le i h0 h1
    have h2 := h.lo i h0 h1
    unfold joinF
    (repeat' split) <;> omega
  · rw [ev i h0 h1, Con.snoc]
    have c1 := h.con i h0 h1
    have c2 := h.con a ha.1 ha.2
    have c3 := h.con b hb.1 hb.2
    have s1 := (sm i a h0 h1 ha.1 ha.2)
    have s2 := (sm i b h0 h1 hb.1 hb.2)
    unfold joinF
    by_cases e1 : rInt g i = rInt g a
    · by_cases e2 : rInt g i = rInt g b
      · left
        have : (if rInt g i = (if rInt g a < rInt g b then rInt g b else rInt g a) then (if rInt g b < rInt g a then rInt g b else rInt g a) else rInt g i) = rInt g i := by (repeat' split) <;> omega
        rw [this]; exact c1
      · have : (if rInt g i = (if rInt g a < rInt g b then rInt g b else rInt g a) then (if rInt g b < rInt g a then rInt g b else rInt g a) else rInt g i) = rInt g i ∨ (if rInt g i = (if rInt g a < rInt g b then rInt g b else rInt g a) then (if rInt g b < rInt g a then rInt g b else rInt g a) else rInt g i) = rInt g b := by (repeat' split) <;> omega
        rcases this with e | e
        · rw [e]; exact .inl c1
        · rw [e]; exact .inr (.inl ⟨s1.1 e1, c3⟩)
    · by_cases e2 : rInt g i = rInt g b
      · have : (if rInt g i = (if rInt g a < rInt g b then rInt g b else rInt g a) then (if rInt g b < rInt g a then rInt g b else rInt g a) else rInt g i) = rInt g i ∨ (if rInt g i = (if rInt g a < rInt g b then rInt g b else rInt g a) then (if rInt g b < rInt g a then rInt g b else rInt g a) else rInt g i) = rInt g a := by (repeat' split) <;> omega
        rcases this with e | e
        · rw [e]; exact .inl c1
        · rw [e]; exact .inr (.inr ⟨s2.1 e2, c2⟩)
      · left
        have : (if rInt g i = (if rInt g a < rInt g b then rInt g b else rInt g a) then (if rInt g b < rInt g a then rInt g b else rInt g a) else rInt g i) = rInt g i := by (repeat' split) <;> omega
        rw [this]; exact c1
  · rw [ev i h0 h1]
    have h2 := h.lo i h0 h1
    have h3 := h.lo a ha.1 ha.2
    have h4 := h.lo b hb.1 hb.2
    unfold joinF
    (repeat' split) <;> omega
theorem edgesF_in {f : Fct} {n : Nat} (hf : formedB f n = true) : EdgesIn (edgesF f) n := by
  obtain ⟨ha, hb, hc, _⟩ := formed_at hf
  unfold edgesF
  split
  · rename_i hk
    intro e he
    simp at he
    rcases he with rfl | rfl
    · exact ⟨ha, hb⟩
    · exact ⟨ha, hc hk⟩
  · intro e he
    simp at he
    subst he
    exact ⟨ha, hb⟩
theorem edges_in {fs : List Fct} {n : Nat} (hf : Fm fs n) : EdgesIn (edgesP fs) n := by
  intro e he
  obtain ⟨f, hm, he⟩ := List.mem_flatMap.1 he
  exact edgesF_in (hf f hm) e he
theorem GrpOk.fact {E : List (Int × Int)} {n : Nat} {g : List Int} (h : GrpOk E n g) {f : Fct} (hf : formedB f n = true) : GrpOk (E ++ edgesF f) n (joinFact g f) := by
  obtain ⟨ha, hb, hc, _⟩ := formed_at hf
  unfold edgesF joinFact
  split
  · rename_i hk
    have := (h.join ha hb).join ha (hc hk)
    rwa [List.append_assoc] at this
  · exact h.join ha hb
theorem group_go {n : Nat} : ∀ (fs : List Fct) (E : List (Int × Int)) (g : List Int), Fm fs n → GrpOk E n g → GrpOk (E ++ edgesP fs) n (fs.foldl joinFact g)
  | [], E, g, _, h => by simpa [edgesP] using h
  | f :: r, E, g, hf, h => by
    have := group_go r _ _ (fun x hx => hf x (by simp [hx])) (h.fact (hf f (by simp)))
    rwa [List.append_assoc] at this
theorem group_ok {fs : List Fct} {n : Nat} (hf : Fm fs n) : GrpOk (edgesP fs) n (groupP fs n) := by
  have := group_go fs [] (allP n) hf (.nil n)
  rwa [List.nil_append] at this
theorem con_same {fs gs : List Fct} (h : ∀ f, f ∈ fs ↔ f ∈ gs) (i j : Int) : Con (edgesP fs) i j ↔ Con (edgesP gs) i j := by
  constructor <;> refine Con.mono (fun e he => ?_) <;> (obtain ⟨f, hm, he⟩ := List.mem_flatMap.1 he) <;> refine List.mem_flatMap.2 ⟨f, ?_, he⟩
  · exact (h f).1 hm
  · exact (h f).2 hm
/-- The parts do not depend on the order of the facts. -/
theorem parts_same {fs gs : List Fct} {n : Nat} (h : ∀ f, f ∈ fs ↔ f ∈ gs) (hf : Fm fs n) : partsP fs n = partsP gs n := by
  have hg : Fm gs n := fun f hm => hf f ((h f).2 hm)
  unfold partsP
  rw [(group_ok hf).unique (group_ok hg) (edges_in hf) (edges_in hg) (con_same h)]
end Bs
