/-
  Plain words of package search: what find, Count, Hull and Decide say of all solutions. No program in sight.
-/
import Derived.Test.YtkkimlicabbooaaPlain25
namespace Bs
set_option linter.unusedVariables false
set_option linter.unusedSimpArgs false

theorem see_fold : ∀ (xs : List (List Pt)) (st : See) (j : Nat), (∀ t ∈ xs, t ≠ []) → st.ends j ≠ [] →
    ((xs.foldl seeP st).ends j = st.ends j ∨ (xs.foldl seeP st).ends j ∈ xs) ∧ keyP (rPt ((xs.foldl seeP st).ends j) (j / 4 : Nat)) (j % 4 : Nat) ≤ keyP (rPt (st.ends j) (j / 4 : Nat)) (j % 4 : Nat) ∧
    ∀ t ∈ xs, keyP (rPt ((xs.foldl seeP st).ends j) (j / 4 : Nat)) (j % 4 : Nat) ≤ keyP (rPt t (j / 4 : Nat)) (j % 4 : Nat)
  | [], st, j, _, _ => ⟨.inl rfl, Int.le_refl _, by simp⟩
  | a :: r, st, j, hx, h0 => by
    have e : (seeP st a).ends j = a ∨ (seeP st a).ends j = st.ends j := by
      show endP a j (st.ends j) = a ∨ endP a j (st.ends j) = st.ends j
      unfold endP
      rw [if_neg h0]
      split
      · exact .inl rfl
      · right; rfl
    have le1 : keyP (rPt ((seeP st a).ends j) (j / 4 : Nat)) (j % 4 : Nat) ≤ keyP (rPt (st.ends j) (j / 4 : Nat)) (j % 4 : Nat) ∧ keyP (rPt ((seeP st a).ends j) (j / 4 : Nat)) (j % 4 : Nat) ≤ keyP (rPt a (j / 4 : Nat)) (j % 4 : Nat) := by
      show keyP (rPt (endP a j (st.ends j)) _) _ ≤ _ ∧ keyP (rPt (endP a j (st.ends j)) _) _ ≤ _
      unfold endP
      rw [if_neg h0]
      split
      · rename_i h; exact ⟨by omega, Int.le_refl _⟩
      · rename_i h; exact ⟨Int.le_refl _, by omega⟩
    have hne : (seeP st a).ends j ≠ [] := by rcases e with e | e <;> rw [e]; exact hx a (by simp); exact h0
    obtain ⟨h1, h2, h3⟩ := see_fold r (seeP st a) j (fun t ht => hx t (by simp [ht])) hne
    refine ⟨?_, Int.le_trans h2 le1.1, fun t ht => ?_⟩
    · rcases h1 with h1 | h1
      · rcases e with e | e
        · right; rw [List.foldl_cons, h1, e]; simp
        · left; rw [List.foldl_cons, h1, e]
      · right; rw [List.foldl_cons]; simp [h1]
    · rcases List.mem_cons.1 ht with rfl | ht
      · exact Int.le_trans h2 le1.2
      · exact h3 t ht
theorem see_ends {xs : List (List Pt)} (h : xs ≠ []) (hx : ∀ t ∈ xs, t ≠ []) (j : Nat) : (xs.foldl seeP see0).ends j ∈ xs ∧ ∀ t ∈ xs, keyP (rPt ((xs.foldl seeP see0).ends j) (j / 4 : Nat)) (j % 4 : Nat) ≤ keyP (rPt t (j / 4 : Nat)) (j % 4 : Nat) := by
  cases xs with
  | nil => exact absurd rfl h
  | cons a r =>
    have e : (seeP see0 a).ends j = a := by show endP a j [] = a; unfold endP; rw [if_pos rfl]
    obtain ⟨h1, h2, h3⟩ := see_fold r (seeP see0 a) j (fun t ht => hx t (by simp [ht])) (by rw [e]; exact hx a (by simp))
    rw [e] at h1 h2
    refine ⟨?_, fun t ht => ?_⟩
    · rcases h1 with h1 | h1
      · rw [List.foldl_cons, h1]; simp
      · rw [List.foldl_cons]; simp [h1]
    · rcases List.mem_cons.1 ht with rfl | ht
      · exact h2
      · exact h3 t ht
theorem see_one : ∀ (xs : List (List Pt)) (st : See), 1 ≤ st.cnt → (xs.foldl seeP st).one = st.one
  | [], _, _ => rfl
  | a :: r, st, h => by
    rw [List.foldl_cons, see_one r _ (by show 1 ≤ st.cnt + 1; omega)]
    show (if st.cnt + 1 = 1 then a else st.one) = st.one
    rw [if_neg (by omega)]
/-- In a part of one point no fact lies. -/
theorem one_free {fs : List Fct} {n : Nat} (hf : Fm fs n) {g : List Int} (hg : PartOk fs n g) (h1 : g.length = 1) : ∀ f ∈ fs, f.a ∉ g := by
  intro f hm ha
  obtain ⟨i, rfl⟩ : ∃ i, g = [i] := by
    rcases g with _ | ⟨i, _ | ⟨k, r⟩⟩ <;> simp at h1
    exact ⟨i, rfl⟩
  have hb := (hg.fact f hm ha).1
  obtain ⟨_, _, _, hne, _⟩ := formed_at (hf f hm)
  simp at ha hb
  omega
theorem partS_one {fs : List Fct} {l : List Bx} (hf : Fm fs l.length) {i : Int} (hg : PartOk fs l.length [i]) : partS fs l [i] = (placesP (rBx l i)).map fun x => [x] := by
  have hb : ∀ x : Pt, badP fs (l.set i.toNat (atP x)) ((mineP fs [i]).headD []) < 0 := by
    intro x
    rw [show ((mineP fs [i]).headD []) = mineRow fs [i] ((0 : Nat) : Int) from mine_drop (g := [i]) (d := 0) (by simp), bad_none_iff]
    intro f hm hmb
    simp only [mineB, hasP, Bool.and_eq_true, beq_iff_eq, decide_eq_true_eq] at hmb
    exact absurd hmb.2 (one_free hf hg rfl f hm)
  have hc : ∀ L : List Pt, L.flatMap (stepS fs l i [] (mineP fs [i]) l []) = L.map fun x => [x] := by
    intro L
    induction L with
    | nil => rfl
    | cons x r ih =>
      rw [List.flatMap_cons, ih, List.map_cons]
      unfold stepS
      rw [if_pos (hb x)]
      rfl
  unfold partS
  rw [solsP_cons, hc]
theorem box_len {b : Bx} (h : b.x.lo ≤ b.x.hi ∧ b.y.lo ≤ b.y.hi) : ((placesP b).length : Int) = sizeP b.x * sizeP b.y := by
  rw [placesP_length, Int.natCast_mul]
  unfold nxP nyP sizeP
  rw [Int.toNat_of_nonneg (by omega), Int.toNat_of_nonneg (by omega)]
theorem seen_cnt {fs : List Fct} {l : List Bx} (hn : Ne l) (hf : Fm fs l.length) {g : List Int} (hg : PartOk fs l.length g) : (seenP fs l g).cnt = (partS fs l g).length := by
  unfold seenP
  split
  · rename_i h1
    obtain ⟨i, rfl⟩ : ∃ i, g = [i] := by
      rcases g with _ | ⟨i, _ | ⟨k, r⟩⟩ <;> simp at h1
      exact ⟨i, rfl⟩
    rw [partS_one hf hg, List.length_map, show rInt [i] 0 = i from rfl]
    have hi := hg.in_ i (by simp)
    obtain ⟨j, rfl⟩ := Int.eq_ofNat_of_zero_le hi.1
    exact (box_len (hn j (by omega))).symm
  · exact look_cnt _ _ _

/-! find -/
/-- What find finds of a problem that is valid and can be gone through. -/
theorem find_ok {p : Prob} (he : (findP p).err = 0) : (narrowP p.facts p.boxes = none ∧ findP p = ⟨true, [], 0⟩) ∨ ∃ l, narrowP p.facts p.boxes = some l ∧ volP l (partsP p.facts p.boxes.length) ≤ 65536 ∧ findP p = ⟨((partsP p.facts p.boxes.length).map (seenP p.facts l)).any (fun s => s.cnt == 0), (partsP p.facts p.boxes.length).map (seenP p.facts l), 0⟩ := by
  cases hn : narrowP p.facts p.boxes with
  | none => exact .inl ⟨rfl, by simp only [findP, hn]⟩
  | some l =>
    by_cases hv : 65536 < volP l (partsP p.facts p.boxes.length)
    · have e : findP p = ⟨false, [], 2⟩ := by simp only [findP, hn]; rw [if_pos hv]
      rw [e] at he; simp at he
    · exact .inr ⟨l, rfl, by omega, by simp only [findP, hn]; rw [if_neg hv]⟩
theorem apart_parts {fs : List Fct} {n : Nat} : Apart n (partsP fs n) := ⟨fun g h i hi => part_in h hi, fun g h => partsP_nodup h, parts_apart⟩
theorem prod_zero (P : List Int → List (List Pt)) : ∀ gs : List (List Int), prodN P gs = 0 ↔ ∃ g ∈ gs, P g = []
  | [] => by simp [prodN]
  | g :: r => by
    unfold prodN
    rw [Nat.mul_eq_zero, prod_zero P r, List.length_eq_zero_iff]
    simp
theorem partS_len {fs : List Fct} {l : List Bx} (g : List Int) (t : List Pt) (h : t ∈ partS fs l g) : t.length = g.length := by
  have := solsP_len fs l g _ _ _ t h
  simpa using this
/-- All solutions, as many as the product of the parts' numbers. -/
theorem all_sols {fs : List Fct} {l : List Bx} (hf : Fm fs l.length) : ∃ L : List (List Pt), L.Nodup ∧ (∀ s, s ∈ L ↔ Sol fs l s) ∧ L.length = prodN (partS fs l) (partsP fs l.length) := by
  have hz : (List.replicate l.length (⟨0, 0⟩ : Pt)).length = l.length := by simp
  refine ⟨fullS (partS fs l) (partsP fs l.length) (List.replicate l.length ⟨0, 0⟩), full_nodup _ partS_len (partS_nodup fs l) _ _ apart_parts hz, fun s => ?_, full_len _ _ _⟩
  rw [mem_full (partS fs l) partS_len _ _ apart_parts hz, sol_parts hf]
  constructor
  · rintro ⟨h1, h2, _⟩
    exact ⟨h1, fun g hg => (mem_partS hf (partOk hf hg) _).1 (h2 g hg)⟩
  · rintro ⟨h1, h2⟩
    refine ⟨h1, fun g hg => (mem_partS hf (partOk hf hg) _).2 (h2 g hg), fun j h0 hj hn => ?_⟩
    obtain ⟨g, hg, hm⟩ := part_of hf h0 hj
    exact absurd hm (hn g hg)
/-- A solution of a part is part of one of all, if each part has one. -/
theorem extend {fs : List Fct} {l : List Bx} (hf : Fm fs l.length) (hne : ∀ g ∈ partsP fs l.length, partS fs l g ≠ []) {g : List Int} (hg : g ∈ partsP fs l.length) {t : List Pt} (ht : t ∈ partS fs l g) : ∃ s, Sol fs l s ∧ resP s g = t := by
  have hz : (List.replicate l.length (⟨0, 0⟩ : Pt)).length = l.length := by simp
  let P : List Int → List (List Pt) := fun k => if k = g then [t] else partS fs l k
  have hP : ∀ k t', t' ∈ P k → t' ∈ partS fs l k := by
    intro k t' h
    by_cases e : k = g
    · subst e
      simp only [P, if_true, List.mem_singleton] at h
      rw [h]; exact ht
    · simpa only [P, e, if_false] using h
  have h0 : prodN P (partsP fs l.length) ≠ 0 := by
    intro hz0
    obtain ⟨k, hk, e⟩ := (prod_zero _ _).1 hz0
    by_cases e2 : k = g
    · simp [P, e2] at e
    · simp only [P, e2, if_false] at e; exact hne k hk e
  have h1 : 0 < (fullS P (partsP fs l.length) (List.replicate l.length ⟨0, 0⟩)).length := by rw [full_len]; omega
  obtain ⟨u, hu⟩ := List.exists_mem_of_length_pos h1
  obtain ⟨u1, u2, _⟩ := (mem_full P (fun k t' h => partS_len k t' (hP k t' h)) _ _ apart_parts hz u).1 hu
  refine ⟨u, (sol_parts hf u).2 ⟨u1, fun k hk => (mem_partS hf (partOk hf hk) _).1 (hP k _ (u2 k hk))⟩, ?_⟩
  have := u2 g hg
  simpa [P] using this
/-- What is known of a problem that find went through. -/
structure Gone (p : Prob) (l : List Bx) : Prop where
  chk : checkP p = 0
  nar : narrowP p.facts p.boxes = some l
  vol : volP l (partsP p.facts p.boxes.length) ≤ 65536
  eq : findP p = ⟨((partsP p.facts p.boxes.length).map (seenP p.facts l)).any (fun s => s.cnt == 0), (partsP p.facts p.boxes.length).map (seenP p.facts l), 0⟩
theorem Gone.ne0 {p : Prob} {l : List Bx} (h : Gone p l) : Ne p.boxes := ne_of_small (check_zero h.chk).2.2.1
theorem Gone.fm {p : Prob} {l : List Bx} (h : Gone p l) : Fm p.facts p.boxes.length := fm_of (check_zero h.chk).2.2.2
theorem Gone.sub {p : Prob} {l : List Bx} (h : Gone p l) : SubL l p.boxes := (narrowP_box h.ne0 h.nar).sub h.ne0
theorem Gone.len {p : Prob} {l : List Bx} (h : Gone p l) : l.length = p.boxes.length := h.sub.len
theorem Gone.fl {p : Prob} {l : List Bx} (h : Gone p l) : Fm p.facts l.length := by rw [h.len]; exact h.fm
theorem Gone.ok {p : Prob} {l : List Bx} (h : Gone p l) {g : List Int} (hg : g ∈ partsP p.facts p.boxes.length) : PartOk p.facts l.length g := by rw [h.len]; exact partOk h.fm hg
theorem Gone.cnt {p : Prob} {l : List Bx} (h : Gone p l) {g : List Int} (hg : g ∈ partsP p.facts p.boxes.length) : (seenP p.facts l g).cnt = (partS p.facts l g).length := seen_cnt h.sub.ne h.fl (h.ok hg)
theorem Gone.sol {p : Prob} {l : List Bx} (h : Gone p l) (s : List Pt) : Sol p.facts p.boxes s ↔ Sol p.facts l s := sol_narrow h.ne0 h.fm h.nar s
theorem Gone.empty {p : Prob} {l : List Bx} (h : Gone p l) : (findP p).empty = true ↔ ∃ g ∈ partsP p.facts p.boxes.length, partS p.facts l g = [] := by
  rw [h.eq]
  dsimp only
  rw [List.any_map, List.any_eq_true]
  constructor
  · rintro ⟨g, hg, e⟩
    refine ⟨g, hg, ?_⟩
    simp only [Function.comp, beq_iff_eq, h.cnt hg] at e
    exact List.eq_nil_of_length_eq_zero (by omega)
  · rintro ⟨g, hg, e⟩
    exact ⟨g, hg, by simp [Function.comp, h.cnt hg, e]⟩
theorem find_cases {p : Prob} (hc : checkP p = 0) (he : (findP p).err = 0) : (narrowP p.facts p.boxes = none ∧ findP p = ⟨true, [], 0⟩) ∨ ∃ l, Gone p l := by
  rcases find_ok he with h | ⟨l, h1, h2, h3⟩
  · exact .inl h
  · exact .inr ⟨l, hc, h1, h2, h3⟩
theorem Gone.list {p : Prob} {l : List Bx} (h : Gone p l) : ∃ L : List (List Pt), L.Nodup ∧ (∀ s, s ∈ L ↔ Sol p.facts p.boxes s) ∧ L.length = prodN (partS p.facts l) (partsP p.facts p.boxes.length) := by
  obtain ⟨L, h1, h2, h3⟩ := all_sols h.fl
  rw [h.len] at h3
  exact ⟨L, h1, fun s => (h2 s).trans (h.sol s).symm, h3⟩
/-- find tells whether there is a solution. -/
theorem find_empty {p : Prob} (hc : checkP p = 0) (he : (findP p).err = 0) : (findP p).empty = true ↔ ∀ s, ¬ Sol p.facts p.boxes s := by
  rcases find_cases hc he with ⟨h1, h2⟩ | ⟨l, h⟩
  · obtain ⟨_, _, h3, h4⟩ := check_zero hc
    rw [h2]
    exact ⟨fun _ => sol_none (ne_of_small h3) (fm_of h4) h1, fun _ => rfl⟩
  · rw [h.empty, ← prod_zero]
    obtain ⟨L, h1, h2, h3⟩ := h.list
    rw [← h3]
    constructor
    · intro e s hs
      rw [List.eq_nil_of_length_eq_zero e] at h2
      have := (h2 s).2 hs
      cases this
    · intro e
      rcases L with _ | ⟨s, r⟩
      · rfl
      · exact absurd ((h2 s).1 (by simp)) (e s)

/-! Count -/
theorem count_prod {ss : List Seen} : ∀ (N n : Int), countGo N ss = (n, 0) → n = N * (ss.map (·.cnt)).foldr (· * ·) 1 := by
  induction ss with
  | nil => intro N n h; simp only [countGo, Prod.mk.injEq] at h; simp [h.1]
  | cons s r ih =>
    intro N n h
    unfold countGo at h
    split at h
    · simp at h
    · rw [ih _ _ h, List.map_cons, List.foldr_cons, Int.mul_assoc]
theorem prod_cast {p : Prob} {l : List Bx} (h : Gone p l) : ∀ gs : List (List Int), (∀ g ∈ gs, g ∈ partsP p.facts p.boxes.length) → ((gs.map (seenP p.facts l)).map (·.cnt)).foldr (· * ·) 1 = ((prodN (partS p.facts l) gs : Nat) : Int)
  | [], _ => rfl
  | g :: r, hg => by
    rw [List.map_cons, List.map_cons, List.foldr_cons, prod_cast h r (fun k hk => hg k (by simp [hk])), h.cnt (hg g (by simp))]
    exact (Int.natCast_mul _ _).symm
/-- Count counts the solutions. -/
theorem count_sem {p : Prob} {n : Int} (h : countP p = (n, 0)) : checkP p = 0 ∧ (findP p).err = 0 ∧ ∃ L : List (List Pt), L.Nodup ∧ (∀ s, s ∈ L ↔ Sol p.facts p.boxes s) ∧ n = L.length := by
  have he : (solvedP p).err = 0 := by
    unfold countP at h
    dsimp only at h
    split at h
    · rename_i h1; exact h1.1
    · exact (Prod.mk.inj h).2
  obtain ⟨hc, hs⟩ := solved_ok he
  rw [hs] at he
  refine ⟨hc, he, ?_⟩
  unfold countP at h
  dsimp only at h
  rw [hs] at h
  rcases find_cases hc he with ⟨h1, h2⟩ | ⟨l, hg⟩
  · obtain ⟨_, _, h3, h4⟩ := check_zero hc
    rw [h2, if_neg (by simp)] at h
    have := (Prod.mk.inj h).1
    exact ⟨[], List.nodup_nil, (fun s => ⟨fun hm => (by cases hm), fun hs => absurd hs (sol_none (ne_of_small h3) (fm_of h4) h1 s)⟩), (by simp [← this])⟩
  · obtain ⟨L, h1, h2, h3⟩ := hg.list
    refine ⟨L, h1, h2, ?_⟩
    by_cases hem : (findP p).empty = true
    · rw [if_neg (by rw [hem]; simp)] at h
      have hz := (prod_zero _ _).2 (hg.empty.1 hem)
      have := (Prod.mk.inj h).1
      rw [h3, hz, ← this]; rfl
    · rw [if_pos ⟨he, by simpa using hem⟩, hg.eq] at h
      rw [count_prod _ _ h, prod_cast hg _ (fun g hg => hg), h3]
      omega

/-! Hull -/
/-- The least box of a point in all solutions. -/
structure IsHull (S : List Pt → Prop) (i : Int) (b : Bx) : Prop where
  xlo : ∃ s, S s ∧ (rPt s i).x = b.x.lo
  xhi : ∃ s, S s ∧ (rPt s i).x = b.x.hi
  ylo : ∃ s, S s ∧ (rPt s i).y = b.y.lo
  yhi : ∃ s, S s ∧ (rPt s i).y = b.y.hi
  all : ∀ s, S s → inB (rPt s i) b
theorem IsHull.mono {S T : List Pt → Prop} {i : Int} {b c : Bx} (h : IsHull S i b) (k : IsHull T i c) (hs : ∀ s, S s → T s) : SubB b c := by
  obtain ⟨s1, m1, e1⟩ := h.xlo
  obtain ⟨s2, m2, e2⟩ := h.xhi
  obtain ⟨s3, m3, e3⟩ := h.ylo
  obtain ⟨s4, m4, e4⟩ := h.yhi
  have a1 := k.all s1 (hs _ m1)
  have a2 := k.all s2 (hs _ m2)
  have a3 := k.all s3 (hs _ m3)
  have a4 := k.all s4 (hs _ m4)
  have b1 := h.all s1 m1
  have b3 := h.all s3 m3
  unfold inB at a1 a2 a3 a4 b1 b3
  exact ⟨⟨by omega, by omega, by omega⟩, ⟨by omega, by omega, by omega⟩⟩
theorem IsHull.unique {S T : List Pt → Prop} {i : Int} {b c : Bx} (h : IsHull S i b) (k : IsHull T i c) (hs : ∀ s, S s ↔ T s) : b = c :=
  (h.mono k (fun s hm => (hs s).1 hm)).antisymm (k.mono h (fun s hm => (hs s).2 hm))
theorem hullGo_at (pt : Int) : ∀ (ss : List Seen) (k : Int) (s : Seen), s ∈ ss → pt ∈ s.part → (∀ q ∈ ss, pt ∈ q.part → q = s) → (hullGo pt ss k).1 = boxAt s (idxP s.part pt)
  | [], _, _, h, _, _ => by cases h
  | q :: r, k, s, h, hm, hu => by
    unfold hullGo
    by_cases hq : pt ∈ q.part
    · obtain rfl := hu q (by simp) hq
      rw [if_pos (idx_in hq).1]
    · rw [if_neg (fun h0 => hq (by
        obtain ⟨j, hj⟩ := Int.eq_ofNat_of_zero_le h0
        obtain ⟨_, h1, h2⟩ := idxP_at hj
        rw [← h2]; exact mem_get h1))]
      refine hullGo_at pt r (k + 1) s ?_ hm (fun x hx => hu x (by simp [hx]))
      rcases List.mem_cons.1 h with e | h
      · exact absurd (e ▸ hm) hq
      · exact h
/-- What the ends of a part say: its least box at one of its places. -/
theorem seen_box {fs : List Fct} {l : List Bx} (hn : Ne l) (hf : Fm fs l.length) {g : List Int} (hg : PartOk fs l.length g) (hne : partS fs l g ≠ []) {k : Nat} (hk : k < g.length) : IsHull (fun t => t ∈ partS fs l g) (k : Int) (boxAt (seenP fs l g) (k : Int)) := by
  by_cases h1 : g.length = 1
  · obtain ⟨i, rfl⟩ : ∃ i, g = [i] := by
      rcases g with _ | ⟨i, _ | ⟨k, r⟩⟩ <;> simp at h1
      exact ⟨i, rfl⟩
    obtain rfl : k = 0 := by simpa using hk
    have hi := hg.in_ i (by simp)
    obtain ⟨j, rfl⟩ := Int.eq_ofNat_of_zero_le hi.1
    obtain ⟨n1, n2⟩ := hn j (by omega)
    have e : boxAt (seenP fs l [(j : Int)]) ((0 : Nat) : Int) = rBx l (j : Int) := rfl
    rw [e]
    have hmem : ∀ x : Pt, inB x (rBx l (j : Int)) → [x] ∈ partS fs l [(j : Int)] := fun x hx => by rw [partS_one hf hg]; exact List.mem_map.2 ⟨x, mem_places.2 hx, rfl⟩
    refine ⟨⟨[⟨(rBx l j).x.lo, (rBx l j).y.lo⟩], hmem _ ?_, rfl⟩, ⟨[⟨(rBx l j).x.hi, (rBx l j).y.lo⟩], hmem _ ?_, rfl⟩, ⟨[⟨(rBx l j).x.lo, (rBx l j).y.lo⟩], hmem _ ?_, rfl⟩, ⟨[⟨(rBx l j).x.lo, (rBx l j).y.hi⟩], hmem _ ?_, rfl⟩, fun s hs => ?_⟩
    · unfold inB; dsimp only; omega
    · unfold inB; dsimp only; omega
    · unfold inB; dsimp only; omega
    · unfold inB; dsimp only; omega
    · rw [partS_one hf hg] at hs
      obtain ⟨x, hx, rfl⟩ := List.mem_map.1 hs
      exact mem_places.1 hx
  · have hx : ∀ t ∈ partS fs l g, t ≠ [] := fun t ht e => by
      have := partS_len g t ht
      rw [e] at this
      simp at this
      omega
    have he : ∀ j, (lookSt fs l g).ends j ∈ partS fs l g ∧ ∀ t ∈ partS fs l g, keyP (rPt ((lookSt fs l g).ends j) (j / 4 : Nat)) (j % 4 : Nat) ≤ keyP (rPt t (j / 4 : Nat)) (j % 4 : Nat) := fun j => see_ends hne hx j
    have hb : boxAt (seenP fs l g) (k : Int) = ⟨⟨(rPt ((lookSt fs l g).ends (4 * k)) k).x, (rPt ((lookSt fs l g).ends (4 * k + 1)) k).x⟩, ⟨(rPt ((lookSt fs l g).ends (4 * k + 2)) k).y, (rPt ((lookSt fs l g).ends (4 * k + 3)) k).y⟩⟩ := by
      unfold seenP boxAt
      rw [if_neg h1]
      simp only [Int.toNat_natCast]
      rw [List.getD_eq_getElem?_getD, List.getElem?_map, List.getElem?_range hk]
      rfl
    rw [hb]
    have h0 := he (4 * k)
    have h2 := he (4 * k + 1)
    have h3 := he (4 * k + 2)
    have h4 := he (4 * k + 3)
    rw [show 4 * k / 4 = k by omega, show 4 * k % 4 = 0 by omega] at h0
    rw [show (4 * k + 1) / 4 = k by omega, show (4 * k + 1) % 4 = 1 by omega] at h2
    rw [show (4 * k + 2) / 4 = k by omega, show (4 * k + 2) % 4 = 2 by omega] at h3
    rw [show (4 * k + 3) / 4 = k by omega, show (4 * k + 3) % 4 = 3 by omega] at h4
    refine ⟨⟨_, h0.1, rfl⟩, ⟨_, h2.1, rfl⟩, ⟨_, h3.1, rfl⟩, ⟨_, h4.1, rfl⟩, fun s hs => ?_⟩
    have a0 := h0.2 s hs
    have a2 := h2.2 s hs
    have a3 := h3.2 s hs
    have a4 := h4.2 s hs
    simp only [keyP] at a0 a2 a3 a4
    simp at a0 a2 a3 a4
    unfold inB
    exact ⟨a0, by simpa using a2, a3, by simpa using a4⟩
theorem Gone.hull {p : Prob} {l : List Bx} (h : Gone p l) (hne : (findP p).empty = false) {i : Int} (h0 : 0 ≤ i) (hi : i < p.boxes.length) : IsHull (Sol p.facts p.boxes) i (hullAt (findP p).parts i).1 := by
  have hall : ∀ g ∈ partsP p.facts l.length, partS p.facts l g ≠ [] := by
    intro g hg e
    rw [h.len] at hg
    rw [h.empty.2 ⟨g, hg, e⟩] at hne
    cases hne
  obtain ⟨g, hg, hm⟩ := part_of h.fm h0 hi
  have hgl : g ∈ partsP p.facts l.length := by rw [h.len]; exact hg
  have e : (hullAt (findP p).parts i).1 = boxAt (seenP p.facts l g) (idxP g i) := by
    rw [h.eq]
    unfold hullAt
    have := hullGo_at i ((partsP p.facts p.boxes.length).map (seenP p.facts l)) 0 (seenP p.facts l g) (List.mem_map.2 ⟨g, hg, rfl⟩) (by rw [seenP_part]; exact hm) (fun q hq hmq => by
      obtain ⟨k, hk, rfl⟩ := List.mem_map.1 hq
      rw [seenP_part] at hmq
      rw [part_eq h.fm hk hg hmq hm])
    rw [seenP_part] at this
    exact this
  obtain ⟨k, hk⟩ := Int.eq_ofNat_of_zero_le (idx_in hm).1
  obtain ⟨_, h1, h2⟩ := idxP_at hk
  rw [e, hk]
  have hb := seen_box h.sub.ne h.fl (h.ok hg) (hall g hgl) h1
  have up : ∀ t, t ∈ partS p.facts l g → ∃ s, Sol p.facts p.boxes s ∧ rPt s i = rPt t (k : Int) := by
    intro t ht
    obtain ⟨s, hs, hr⟩ := extend h.fl hall hgl ht
    refine ⟨s, (h.sol s).2 hs, ?_⟩
    rw [← hr, res_at h1, rInt_nat, h2]
  refine ⟨?_, ?_, ?_, ?_, fun s hs => ?_⟩
  · obtain ⟨t, ht, et⟩ := hb.xlo; obtain ⟨s, hs, es⟩ := up t ht; exact ⟨s, hs, by rw [es]; exact et⟩
  · obtain ⟨t, ht, et⟩ := hb.xhi; obtain ⟨s, hs, es⟩ := up t ht; exact ⟨s, hs, by rw [es]; exact et⟩
  · obtain ⟨t, ht, et⟩ := hb.ylo; obtain ⟨s, hs, es⟩ := up t ht; exact ⟨s, hs, by rw [es]; exact et⟩
  · obtain ⟨t, ht, et⟩ := hb.yhi; obtain ⟨s, hs, es⟩ := up t ht; exact ⟨s, hs, by rw [es]; exact et⟩
  · have := ((sol_parts h.fl s).1 ((h.sol s).1 hs)).2 g hgl
    have := hb.all _ ((mem_partS h.fl (h.ok hg) _).2 this)
    rw [res_at h1, rInt_nat, h2] at this
    exact this
end Bs
