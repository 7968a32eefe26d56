/-
  Plain words of package search: the solutions of a part, as points of it. No program in sight.
-/
import Derived.Test.YtkkimlicabbooaaPlain23
namespace Bs
set_option linter.unusedVariables false
set_option linter.unusedSimpArgs false

theorem mem_all {n : Nat} {i : Int} : i ∈ allP n ↔ 0 ≤ i ∧ i < n := by
  refine ⟨allP_get, fun h => ?_⟩
  obtain ⟨j, rfl⟩ := Int.eq_ofNat_of_zero_le h.1
  simp only [allP, List.mem_map, List.mem_range]
  exact ⟨j, by omega, rfl⟩
theorem mem_members {g : List Int} {r k : Int} : k ∈ membersP g r ↔ (0 ≤ k ∧ k < g.length) ∧ rInt g k = r := by
  unfold membersP
  rw [List.mem_filter, mem_all]
  simp
/-- The parts: each is the class of its least point. -/
theorem mem_parts {fs : List Fct} {n : Nat} {g : List Int} : g ∈ partsP fs n ↔ ∃ r : Int, (0 ≤ r ∧ r < n) ∧ rInt (groupP fs n) r = r ∧ g = membersP (groupP fs n) r := by
  unfold partsP partsG
  simp only [List.mem_map, List.mem_filter, mem_all, groupP_length, beq_iff_eq]
  constructor
  · rintro ⟨r, ⟨h1, h2⟩, rfl⟩; exact ⟨r, h1, h2, rfl⟩
  · rintro ⟨r, h1, h2, rfl⟩; exact ⟨r, ⟨h1, h2⟩, rfl⟩
theorem part_of {fs : List Fct} {n : Nat} (hf : Fm fs n) {i : Int} (h0 : 0 ≤ i) (h1 : i < n) : ∃ g ∈ partsP fs n, i ∈ g := by
  have h := group_ok hf
  have hb := (h.con i h0 h1).in_ (edges_in hf) ⟨h0, h1⟩
  have he : rInt (groupP fs n) (rInt (groupP fs n) i) = rInt (groupP fs n) i := ((h.same i _ h0 h1 hb.1 hb.2).2 (h.con i h0 h1)).symm
  exact ⟨_, mem_parts.2 ⟨rInt (groupP fs n) i, hb, he, rfl⟩, mem_members.2 ⟨⟨h0, by rw [groupP_length]; exact h1⟩, rfl⟩⟩
theorem part_in {fs : List Fct} {n : Nat} {g : List Int} (h : g ∈ partsP fs n) {i : Int} (hi : i ∈ g) : 0 ≤ i ∧ i < n := by
  obtain ⟨r, _, _, rfl⟩ := mem_parts.1 h
  have := (mem_members.1 hi).1
  rwa [groupP_length] at this
theorem part_con {fs : List Fct} {n : Nat} (hf : Fm fs n) {g : List Int} (h : g ∈ partsP fs n) {i j : Int} (hi : i ∈ g) (hj : 0 ≤ j ∧ j < n) : j ∈ g ↔ Con (edgesP fs) i j := by
  have hb := part_in h hi
  obtain ⟨r, _, _, rfl⟩ := mem_parts.1 h
  have hs := (group_ok hf).same i j hb.1 hb.2 hj.1 hj.2
  rw [← hs, (mem_members.1 hi).2, mem_members, groupP_length]
  constructor
  · intro h; exact h.2.symm
  · intro h; exact ⟨hj, h.symm⟩
theorem part_eq {fs : List Fct} {n : Nat} (hf : Fm fs n) {g k : List Int} (h : g ∈ partsP fs n) (h2 : k ∈ partsP fs n) {i : Int} (hi : i ∈ g) (hk : i ∈ k) : g = k := by
  obtain ⟨r, _, _, rfl⟩ := mem_parts.1 h
  obtain ⟨q, _, _, rfl⟩ := mem_parts.1 h2
  rw [← (mem_members.1 hi).2, ← (mem_members.1 hk).2]
theorem edge_ab {fs : List Fct} {f : Fct} (h : f ∈ fs) : (f.a, f.b) ∈ edgesP fs := List.mem_flatMap.2 ⟨f, h, by unfold edgesF; split <;> simp⟩
theorem edge_ac {fs : List Fct} {f : Fct} (h : f ∈ fs) (hk : f.kind = 2) : (f.a, f.c) ∈ edgesP fs := List.mem_flatMap.2 ⟨f, h, by unfold edgesF; rw [if_pos hk]; simp⟩
/-- All points of a fact lie in one part. -/
theorem part_fact {fs : List Fct} {n : Nat} (hf : Fm fs n) {g : List Int} (h : g ∈ partsP fs n) {f : Fct} (hm : f ∈ fs) : (f.a ∈ g ↔ f.b ∈ g) ∧ (f.kind = 2 → (f.a ∈ g ↔ f.c ∈ g)) := by
  obtain ⟨ha, hb, hc, _⟩ := formed_at (hf f hm)
  refine ⟨⟨fun hi => ?_, fun hi => ?_⟩, fun hk => ⟨fun hi => ?_, fun hi => ?_⟩⟩
  · exact (part_con hf h hi hb).2 ((Con.refl _).step (.inl (edge_ab hm)))
  · exact (part_con hf h hi ha).2 ((Con.refl _).step (.inr (edge_ab hm)))
  · exact (part_con hf h hi (hc hk)).2 ((Con.refl _).step (.inl (edge_ac hm hk)))
  · exact (part_con hf h hi ha).2 ((Con.refl _).step (.inr (edge_ac hm hk)))
theorem parts_apart {fs : List Fct} {n : Nat} : (partsP fs n).Pairwise (fun a b => ∀ x ∈ a, x ∉ b) := by
  unfold partsP partsG
  rw [List.pairwise_map]
  have h1 : ((allP (groupP fs n).length).filter fun i => rInt (groupP fs n) i == i).Nodup := (allP_nodup _).filter _
  refine List.Pairwise.imp (fun {a b} hab x hx hy => hab ?_) h1
  rw [← (mem_members.1 hx).2, ← (mem_members.1 hy).2]

/-! Points put into boxes -/
def putB : List Int → List Pt → List Bx → List Bx
  | i :: r, x :: t, h => putB r t (h.set i.toNat (atP x))
  | _, _, h => h
theorem putB_length : ∀ (r : List Int) (t : List Pt) (h : List Bx), (putB r t h).length = h.length
  | i :: r, x :: t, h => by unfold putB; rw [putB_length r t, List.length_set]
  | [], _, _ => rfl
  | _ :: _, [], _ => rfl
theorem putB_out : ∀ (r : List Int) (t : List Pt) (h : List Bx) (j : Int), 0 ≤ j → (∀ i ∈ r, 0 ≤ i) → j ∉ r → rBx (putB r t h) j = rBx h j
  | i :: r, x :: t, h, j, hj, h0, hn => by
    unfold putB
    rw [putB_out r t _ j hj (fun i hi => h0 i (by simp [hi])) (fun hm => hn (by simp [hm]))]
    have hi := h0 i (by simp)
    obtain ⟨p, rfl⟩ := Int.eq_ofNat_of_zero_le hi
    exact rBx_set_int hj (fun e => hn (by rw [e]; simp))
  | [], _, _, _, _, _, _ => rfl
  | _ :: _, [], _, _, _, _, _ => rfl
theorem putB_at : ∀ (r : List Int) (t : List Pt) (h : List Bx) (k : Nat), (∀ i ∈ r, 0 ≤ i ∧ i < (h.length : Int)) → r.Nodup → t.length = r.length → k < r.length → rBx (putB r t h) (rInt r k) = atP (rPt t k)
  | [], _, _, k, _, _, _, hk => by simp at hk
  | _ :: _, [], _, _, _, _, hl, _ => by simp at hl
  | i :: r, x :: t, h, k, h0, hn, hl, hk => by
    have hi := h0 i (by simp)
    obtain ⟨p, rfl⟩ := Int.eq_ofNat_of_zero_le hi.1
    have hnd := List.nodup_cons.1 hn
    unfold putB
    rcases k with _ | k
    · show rBx _ (rInt ((p : Int) :: r) ((0 : Nat) : Int)) = _
      rw [show rInt ((p : Int) :: r) ((0 : Nat) : Int) = (p : Int) from rfl, putB_out r t _ _ (by omega) (fun j hj => (h0 j (by simp [hj])).1) hnd.1, show rPt (x :: t) ((0 : Nat) : Int) = x from rfl]
      exact rBx_set_same (by omega)
    · have e1 : rInt ((p : Int) :: r) ((k + 1 : Nat) : Int) = rInt r (k : Int) := by rw [rInt_nat, rInt_nat]; rfl
      have e2 : rPt (x :: t) ((k + 1 : Nat) : Int) = rPt t (k : Int) := by rw [rPt_nat, rPt_nat]; rfl
      rw [e1, e2]
      exact putB_at r t _ k (fun j hj => by rw [List.length_set]; exact h0 j (by simp [hj])) hnd.2 (by simpa using hl) (by simpa using hk)

theorem mem_nums {a b x : Int} : x ∈ numsP a b ↔ a ≤ x ∧ x ≤ b := by
  unfold numsP upFrom
  simp only [List.mem_map, List.mem_range]
  constructor
  · rintro ⟨k, hk, rfl⟩; omega
  · intro h; exact ⟨(x - a).toNat, by omega, by omega⟩
theorem nums_nodup (a b : Int) : (numsP a b).Nodup := by
  unfold numsP upFrom List.Nodup
  rw [List.pairwise_map]
  have h : (List.range (b - a + 1).toNat).Pairwise (· ≠ ·) := List.nodup_range
  exact h.imp (fun {a b} h e => h (by omega))
theorem mem_places {b : Bx} {x : Pt} : x ∈ placesP b ↔ inB x b := by
  unfold placesP colP inB
  simp only [List.mem_flatMap, List.mem_map, mem_nums]
  constructor
  · rintro ⟨u, hu, v, hv, rfl⟩; exact ⟨hu.1, hu.2, hv.1, hv.2⟩
  · rintro ⟨h1, h2, h3, h4⟩; exact ⟨x.x, ⟨h1, h2⟩, x.y, ⟨h3, h4⟩, rfl⟩
theorem places_nodup (b : Bx) : (placesP b).Nodup := by
  unfold placesP List.Nodup
  rw [List.pairwise_flatMap]
  refine ⟨fun x _ => ?_, ?_⟩
  · unfold colP
    rw [List.pairwise_map]
    have h : (numsP b.y.lo b.y.hi).Pairwise (· ≠ ·) := nums_nodup _ _
    exact h.imp (fun {a b} h e => h (by injection e))
  · have h : (numsP b.x.lo b.x.hi).Pairwise (· ≠ ·) := nums_nodup _ _
    refine h.imp (fun {a b} h x hx y hy e => h ?_)
    unfold colP at hx hy
    obtain ⟨u, _, rfl⟩ := List.mem_map.1 hx
    obtain ⟨v, _, rfl⟩ := List.mem_map.1 hy
    injection e

/-- Choices that the walk keeps. -/
def Kept (fs : List Fct) (l : List Bx) : List Int → List (List Int) → List Bx → List Pt → Prop
  | [], _, _, t => t = []
  | i :: r, ms, here, t => ∃ x t', t = x :: t' ∧ inB x (rBx l i) ∧ badP fs (here.set i.toNat (atP x)) (ms.headD []) < 0 ∧ Kept fs l r ms.tail (here.set i.toNat (atP x)) t'
theorem mem_sols (fs : List Fct) (l : List Bx) : ∀ (r : List Int) (ms : List (List Int)) (here : List Bx) (pre s : List Pt), s ∈ solsP fs l r ms here pre ↔ ∃ t, s = pre ++ t ∧ Kept fs l r ms here t
  | [], ms, here, pre, s => by
    unfold solsP Kept
    constructor
    · intro h; exact ⟨[], by simpa using h, rfl⟩
    · rintro ⟨t, rfl, rfl⟩; simp
  | i :: r, ms, here, pre, s => by
    rw [solsP_cons, List.mem_flatMap]
    unfold Kept
    constructor
    · rintro ⟨x, hx, hs⟩
      unfold stepS at hs
      split at hs
      · rename_i hb
        obtain ⟨t, rfl, hk⟩ := (mem_sols fs l r _ _ _ _).1 hs
        exact ⟨x :: t, by simp, x, t, rfl, mem_places.1 hx, hb, hk⟩
      · cases hs
    · rintro ⟨_, rfl, x, t, rfl, hx, hb, hk⟩
      refine ⟨x, mem_places.2 hx, ?_⟩
      unfold stepS
      rw [if_pos hb]
      exact (mem_sols fs l r _ _ _ _).2 ⟨t, by simp, hk⟩
theorem sols_nodup (fs : List Fct) (l : List Bx) : ∀ (r : List Int) (ms : List (List Int)) (here : List Bx) (pre : List Pt), (solsP fs l r ms here pre).Nodup
  | [], _, _, _ => by unfold solsP; simp
  | i :: r, ms, here, pre => by
    rw [solsP_cons]
    unfold List.Nodup
    rw [List.pairwise_flatMap]
    refine ⟨fun x _ => ?_, ?_⟩
    · unfold stepS
      split
      · exact sols_nodup fs l r _ _ _
      · exact List.Pairwise.nil
    · have h : (placesP (rBx l i)).Pairwise (· ≠ ·) := places_nodup _
      refine h.imp (fun {a b} h x hx y hy e => h ?_)
      unfold stepS at hx hy
      split at hx
      · split at hy
        · obtain ⟨t, rfl, _⟩ := (mem_sols fs l r _ _ _ _).1 hx
          obtain ⟨u, rfl, _⟩ := (mem_sols fs l r _ _ _ _).1 hy
          rw [List.append_assoc, List.append_assoc] at e
          have := List.append_cancel_left e
          injection this
        · cases hy
      · cases hx
end Bs
