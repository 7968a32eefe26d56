/-
  Plain words of package search: the solutions of a problem are put together from those of its parts. No program in sight.
-/
import Derived.Test.YtkkimlicabbooaaPlain24
namespace Bs
set_option linter.unusedVariables false
set_option linter.unusedSimpArgs false

theorem idxFrom_cons (x y : Int) (r : List Int) (k : Int) : idxFrom x (y :: r) k = if x = y then k else idxFrom x r (k + 1) := rfl
theorem idxFrom_app (x : Int) : ∀ (a b : List Int) (k : Int), idxFrom x (a ++ b) k = if x ∈ a then idxFrom x a k else idxFrom x b (k + a.length)
  | [], b, k => by simp
  | y :: r, b, k => by
    rw [List.cons_append, idxFrom_cons x y (r ++ b) k, idxFrom_cons x y r k]
    by_cases e : x = y
    · subst e; simp
    · rw [if_neg e, if_neg e, idxFrom_app x r b (k + 1)]
      simp only [List.mem_cons, e, false_or, List.length_cons]
      split
      · rfl
      · congr 1; omega
theorem idxFrom_in {x : Int} : ∀ (a : List Int) (k : Int), x ∈ a → k ≤ idxFrom x a k ∧ idxFrom x a k < k + a.length
  | [], _, h => by cases h
  | y :: r, k, h => by
    unfold idxFrom
    by_cases e : x = y
    · rw [if_pos e, List.length_cons]; omega
    · rw [if_neg e, List.length_cons]
      have := idxFrom_in r (k + 1) (by simpa [e] using h)
      omega
theorem idx_in {x : Int} {a : List Int} (h : x ∈ a) : 0 ≤ idxP a x ∧ idxP a x < a.length := by
  have := idxFrom_in a 0 h
  unfold idxP; omega
theorem idx_app {x : Int} {a b : List Int} (h : x ∈ a ++ b) : idxP (a ++ b) x < a.length ↔ x ∈ a := by
  unfold idxP
  rw [idxFrom_app]
  split
  · rename_i ha
    have := idxFrom_in a 0 ha
    constructor
    · intro _; exact ha
    · intro _; omega
  · rename_i ha
    have hb : x ∈ b := by simpa [ha] using h
    have := idxFrom_in b (0 + a.length) hb
    constructor
    · intro h2; omega
    · intro h2; exact absurd h2 ha
theorem idx_at {l : List Int} {x : Int} (h : x ∈ l) : rInt l (idxP l x) = x := by
  have := idx_in h
  obtain ⟨j, hj⟩ := Int.eq_ofNat_of_zero_le this.1
  have := (idxP_at hj).2.2
  rw [hj, rInt_nat]; exact this
theorem bad_none_iff {fs : List Fct} {bs : List Bx} {g : List Int} {k : Int} : badP fs bs (mineRow fs g k) < 0 ↔ ∀ f ∈ fs, mineB g k f = true → failsP f bs = false := by
  constructor
  · intro h f hf hm
    obtain ⟨j, hj, rfl⟩ := List.mem_iff_getElem.1 hf
    have hr : rFct fs (j : Int) = fs[j] := by rw [rFct_nat, List.getD_eq_getElem?_getD, List.getElem?_eq_getElem hj]; rfl
    have := badP_none (fun i hi => (mem_all.1 (List.mem_filter.1 hi).1).1) h (j : Int) (List.mem_filter.2 ⟨mem_all.2 ⟨by omega, by omega⟩, by rw [hr]; exact hm⟩)
    rwa [hr] at this
  · intro h
    by_cases h1 : badP fs bs (mineRow fs g k) < 0
    · exact h1
    · obtain ⟨h2, h3⟩ := badP_some (Int.not_lt.1 h1)
      obtain ⟨h4, h5⟩ := List.mem_filter.1 h2
      have hb := mem_all.1 h4
      rw [h _ (rFct_mem hb.1 hb.2) h5] at h3
      cases h3
theorem mine_drop {fs : List Fct} {g : List Int} {d : Nat} (h : d < g.length) : ((mineP fs g).drop d).headD [] = mineRow fs g d := by
  have hl : d < (mineP fs g).length := by simp [mineP, allP_length]; exact h
  rw [List.drop_eq_getElem_cons hl]
  show (mineP fs g)[d] = _
  simp [mineP, allP]
/-- What is asked of a part: its points are different, and each fact lies in it or outside. -/
structure PartOk (fs : List Fct) (n : Nat) (g : List Int) : Prop where
  nodup : g.Nodup
  in_ : ∀ i ∈ g, 0 ≤ i ∧ i < (n : Int)
  fact : ∀ f ∈ fs, f.a ∈ g → f.b ∈ g ∧ (f.kind = 2 → f.c ∈ g)
theorem partOk {fs : List Fct} {n : Nat} (hf : Fm fs n) {g : List Int} (h : g ∈ partsP fs n) : PartOk fs n g :=
  ⟨partsP_nodup h, fun i hi => part_in h hi, fun f hm ha => ⟨((part_fact hf h hm).1).1 ha, fun hk => ((part_fact hf h hm).2 hk).1 ha⟩⟩
/-- All points of a fact are chosen by the k-th of a part. -/
theorem last_points {fs : List Fct} {n : Nat} {g : List Int} (hg : PartOk fs n g) {f : Fct} (hm : f ∈ fs) (ha : f.a ∈ g) {a b : List Int} (e : g = a ++ b) (h : lastP g f < a.length) : f.a ∈ a ∧ f.b ∈ a ∧ (f.kind = 2 → f.c ∈ a) := by
  obtain ⟨hb, hc⟩ := hg.fact f hm ha
  subst e
  unfold lastP at h
  split at h
  · rename_i hk
    exact ⟨(idx_app ha).1 (by omega), (idx_app hb).1 (by omega), fun _ => (idx_app (hc hk)).1 (by omega)⟩
  · rename_i hk
    exact ⟨(idx_app ha).1 (by omega), (idx_app hb).1 (by omega), fun h2 => absurd h2 hk⟩
theorem last_lo {g : List Int} {f : Fct} (ha : f.a ∈ g) : 0 ≤ lastP g f := by
  have := (idx_in ha).1
  unfold lastP
  split <;> omega
theorem fails_out {f : Fct} {n : Nat} (hf : formedB f n = true) {r : List Int} {t : List Pt} {h : List Bx} (h0 : ∀ i ∈ r, 0 ≤ i) (ha : f.a ∉ r) (hb : f.b ∉ r) (hc : f.kind = 2 → f.c ∉ r) : failsP f (putB r t h) = failsP f h := by
  obtain ⟨a1, b1, c1, _⟩ := formed_at hf
  exact fails_congr (putB_out r t h _ a1.1 h0 ha) (putB_out r t h _ b1.1 h0 hb) (fun hk => putB_out r t h _ (c1 hk).1 h0 (hc hk))
theorem kept_iff {fs : List Fct} {n : Nat} (hf : Fm fs n) {g : List Int} (hg : PartOk fs n g) (l : List Bx) : ∀ (r a : List Int) (here : List Bx) (t : List Pt), g = a ++ r →
    (Kept fs l r ((mineP fs g).drop a.length) here t ↔ t.length = r.length ∧ (∀ k : Nat, k < r.length → inB (rPt t k) (rBx l (rInt r k))) ∧ ∀ f ∈ fs, f.a ∈ g → (a.length : Int) ≤ lastP g f → failsP f (putB r t here) = false)
  | [], a, here, t, e => by
    unfold Kept
    constructor
    · rintro rfl
      refine ⟨rfl, fun k hk => absurd hk (Nat.not_lt_zero _), fun f hm ha hl => ?_⟩
      exfalso
      rw [List.append_nil] at e
      obtain ⟨hb, hc⟩ := hg.fact f hm ha
      have h1 := (idx_in ha).2
      have h2 := (idx_in hb).2
      rw [← e] at hl
      unfold lastP at hl
      split at hl
      · rename_i hk
        have h3 := (idx_in (hc hk)).2
        omega
      · omega
    · rintro ⟨h, _⟩
      exact List.eq_nil_of_length_eq_zero h
  | i :: r, a, here, t, e => by
    have e2 : g = (a ++ [i]) ++ r := by rw [e]; simp
    have hd : a.length < g.length := by rw [e]; simp
    have hnd := hg.nodup
    rw [e2] at hnd
    have h0 : ∀ j ∈ r, 0 ≤ j := fun j hj => (hg.in_ j (by rw [e2]; simp [hj])).1
    unfold Kept
    rw [mine_drop hd, List.tail_drop, show a.length + 1 = (a ++ [i]).length by simp]
    have step : ∀ (x : Pt) (t' : List Pt), ((∀ f ∈ fs, f.a ∈ g → (a.length : Int) ≤ lastP g f → failsP f (putB (i :: r) (x :: t') here) = false) ↔
        badP fs (here.set i.toNat (atP x)) (mineRow fs g a.length) < 0 ∧ ∀ f ∈ fs, f.a ∈ g → ((a ++ [i]).length : Int) ≤ lastP g f → failsP f (putB r t' (here.set i.toNat (atP x))) = false) := by
      intro x t'
      rw [bad_none_iff]
      have same : ∀ f ∈ fs, f.a ∈ g → lastP g f = a.length → failsP f (putB r t' (here.set i.toNat (atP x))) = failsP f (here.set i.toNat (atP x)) := by
        intro f hm ha hl
        obtain ⟨h1, h2, h3⟩ := last_points hg hm ha e2 (by simp; omega)
        have hdis := List.nodup_append.1 hnd
        exact fails_out (hf f hm) h0 (fun h => hdis.2.2 _ h1 _ h rfl) (fun h => hdis.2.2 _ h2 _ h rfl) (fun hk h => hdis.2.2 _ (h3 hk) _ h rfl)
      constructor
      · intro h
        refine ⟨fun f hm hb => ?_, fun f hm ha hl => h f hm ha (by simp at hl; omega)⟩
        simp only [mineB, hasP, Bool.and_eq_true, beq_iff_eq, decide_eq_true_eq] at hb
        rw [← same f hm hb.2 hb.1]
        exact h f hm hb.2 (by omega)
      · rintro ⟨h1, h2⟩ f hm ha hl
        show failsP f (putB r t' (here.set i.toNat (atP x))) = false
        by_cases el : lastP g f = a.length
        · rw [same f hm ha el]
          exact h1 f hm (by simp [mineB, hasP, el, ha])
        · exact h2 f hm ha (by simp; omega)
    constructor
    · rintro ⟨x, t', rfl, hx, hb, hk⟩
      obtain ⟨k1, k2, k3⟩ := (kept_iff hf hg l r (a ++ [i]) _ t' e2).1 hk
      refine ⟨by simp [k1], fun k hk => ?_, (step x t').2 ⟨hb, k3⟩⟩
      rcases k with _ | k
      · exact hx
      · have := k2 k (by simpa using hk)
        rw [rInt_nat, rPt_nat] at this ⊢
        exact this
    · rintro ⟨k1, k2, k3⟩
      rcases t with _ | ⟨x, t'⟩
      · simp at k1
      · obtain ⟨s1, s2⟩ := (step x t').1 k3
        refine ⟨x, t', rfl, k2 0 (by simp), s1, (kept_iff hf hg l r (a ++ [i]) _ t' e2).2 ⟨by simpa using k1, fun k hk => ?_, s2⟩⟩
        have := k2 (k + 1) (by simpa using hk)
        rw [rInt_nat, rPt_nat] at this ⊢
        exact this
/-- A solution of a part. -/
structure PSol (fs : List Fct) (l : List Bx) (g : List Int) (t : List Pt) : Prop where
  len : t.length = g.length
  box : ∀ k : Nat, k < g.length → inB (rPt t k) (rBx l (rInt g k))
  fact : ∀ f ∈ fs, f.a ∈ g → failsP f (putB g t l) = false
/-- The solutions of a part, as look meets them. -/
def partS (fs : List Fct) (l : List Bx) (g : List Int) : List (List Pt) := solsP fs l g (mineP fs g) l []
theorem mem_partS {fs : List Fct} {l : List Bx} (hf : Fm fs l.length) {g : List Int} (hg : PartOk fs l.length g) (t : List Pt) : t ∈ partS fs l g ↔ PSol fs l g t := by
  unfold partS
  rw [mem_sols]
  have := kept_iff hf hg l g [] l t rfl
  simp only [List.length_nil, List.drop_zero] at this
  constructor
  · rintro ⟨t', rfl, h⟩
    obtain ⟨h1, h2, h3⟩ := this.1 h
    exact ⟨h1, h2, fun f hm ha => h3 f hm ha (by have := last_lo ha; simpa using this)⟩
  · intro h
    exact ⟨t, by simp, this.2 ⟨h.len, h.box, fun f hm ha _ => h.fact f hm ha⟩⟩
theorem partS_nodup (fs : List Fct) (l : List Bx) (g : List Int) : (partS fs l g).Nodup := sols_nodup _ _ _ _ _ _

/-! Restricting and putting together -/
def resP (s : List Pt) (g : List Int) : List Pt := g.map (rPt s)
theorem res_at {s : List Pt} {g : List Int} {k : Nat} (h : k < g.length) : rPt (resP s g) k = rPt s (rInt g k) := by
  rw [rPt_nat, rInt_nat, resP, List.getD_eq_getElem?_getD, List.getElem?_map, List.getD_eq_getElem?_getD, List.getElem?_eq_getElem h]; rfl
theorem put_alone {n : Nat} {l : List Bx} {s : List Pt} {g : List Int} (hl : l.length = n) (hs : s.length = n) (hn : g.Nodup) (hi : ∀ i ∈ g, 0 ≤ i ∧ i < (n : Int)) {i : Int} (h : i ∈ g) : rBx (putB g (resP s g) l) i = rBx (aloneP s) i := by
  have hb := hi i h
  obtain ⟨j, hj⟩ := Int.eq_ofNat_of_zero_le (idx_in h).1
  obtain ⟨_, h1, h2⟩ := idxP_at hj
  have e : rInt g (j : Int) = i := by rw [rInt_nat]; exact h2
  have := putB_at g (resP s g) l j (fun i hm => by rw [hl]; exact hi i hm) hn (by simp [resP]) h1
  rw [e, res_at h1, e] at this
  rw [this, rBx_alone_int hb.1 (by omega)]
theorem fails_res {fs : List Fct} {l : List Bx} (hf : Fm fs l.length) {g : List Int} (hg : PartOk fs l.length g) {s : List Pt} (hs : s.length = l.length) {f : Fct} (hm : f ∈ fs) (ha : f.a ∈ g) : failsP f (putB g (resP s g) l) = failsP f (aloneP s) := by
  obtain ⟨hb, hc⟩ := hg.fact f hm ha
  exact fails_congr (put_alone rfl hs hg.nodup hg.in_ ha) (put_alone rfl hs hg.nodup hg.in_ hb) (fun hk => put_alone rfl hs hg.nodup hg.in_ (hc hk))
theorem sol_parts {fs : List Fct} {l : List Bx} (hf : Fm fs l.length) (s : List Pt) : Sol fs l s ↔ s.length = l.length ∧ ∀ g ∈ partsP fs l.length, PSol fs l g (resP s g) := by
  constructor
  · intro h
    refine ⟨h.len, fun g hg => ?_⟩
    have hp := partOk hf hg
    refine ⟨by simp [resP], fun k hk => ?_, fun f hm ha => ?_⟩
    · rw [res_at hk]
      have hi := hp.in_ (rInt g k) (by rw [rInt_nat]; exact mem_get hk)
      obtain ⟨j, hj⟩ := Int.eq_ofNat_of_zero_le hi.1
      rw [hj] at hi ⊢
      exact h.box j (by omega)
    · rw [fails_res hf hp h.len hm ha]; exact h.fact f hm
  · rintro ⟨hl, h⟩
    refine ⟨hl, fun i hi => ?_, fun f hm => ?_⟩
    · obtain ⟨g, hg, him⟩ := part_of hf (i := (i : Int)) (by omega) (by omega)
      obtain ⟨j, hj⟩ := Int.eq_ofNat_of_zero_le (idx_in him).1
      obtain ⟨_, h1, h2⟩ := idxP_at hj
      have := (h g hg).box j h1
      rw [res_at h1, rInt_nat, h2] at this
      exact this
    · obtain ⟨ha, _⟩ := formed_at (hf f hm)
      obtain ⟨g, hg, him⟩ := part_of hf ha.1 ha.2
      rw [← fails_res hf (partOk hf hg) hl hm him]
      exact (h g hg).fact f hm him

/-- Points set into a list of points. -/
def putS : List Int → List Pt → List Pt → List Pt
  | i :: r, x :: t, s => putS r t (s.set i.toNat x)
  | _, _, s => s
theorem putS_length : ∀ (r : List Int) (t s : List Pt), (putS r t s).length = s.length
  | i :: r, x :: t, s => by unfold putS; rw [putS_length r t, List.length_set]
  | [], _, _ => rfl
  | _ :: _, [], _ => rfl
theorem rPt_set {s : List Pt} {i j : Int} {x : Pt} (hi : 0 ≤ i) (hj : 0 ≤ j) : rPt (s.set i.toNat x) j = if i = j ∧ i < s.length then x else rPt s j := by
  unfold rPt
  rw [List.getD_eq_getElem?_getD, List.getD_eq_getElem?_getD, List.getElem?_set]
  by_cases h : i = j
  · subst h
    by_cases h2 : i.toNat < s.length
    · simp [h2, show i < s.length by omega]
    · simp [h2, show ¬ i < s.length by omega]
  · rw [if_neg (by omega), if_neg (by omega)]
theorem putS_out : ∀ (r : List Int) (t s : List Pt) (j : Int), 0 ≤ j → (∀ i ∈ r, 0 ≤ i) → j ∉ r → rPt (putS r t s) j = rPt s j
  | i :: r, x :: t, s, j, hj, h0, hn => by
    unfold putS
    rw [putS_out r t _ j hj (fun i hi => h0 i (by simp [hi])) (fun hm => hn (by simp [hm])), rPt_set (h0 i (by simp)) hj, if_neg (fun e => hn (by rw [← e.1]; simp))]
  | [], _, _, _, _, _, _ => rfl
  | _ :: _, [], _, _, _, _, _ => rfl
theorem putS_res : ∀ (r : List Int) (t s : List Pt), (∀ i ∈ r, 0 ≤ i ∧ i < (s.length : Int)) → r.Nodup → t.length = r.length → resP (putS r t s) r = t
  | [], [], _, _, _, _ => rfl
  | [], _ :: _, _, _, _, hl => by simp at hl
  | _ :: _, [], _, _, _, hl => by simp at hl
  | i :: r, x :: t, s, h0, hn, hl => by
    have hi := h0 i (by simp)
    have hnd := List.nodup_cons.1 hn
    have ih := putS_res r t (s.set i.toNat x) (fun j hj => by rw [List.length_set]; exact h0 j (by simp [hj])) hnd.2 (by simpa using hl)
    show rPt (putS (i :: r) (x :: t) s) i :: resP (putS (i :: r) (x :: t) s) r = x :: t
    unfold putS
    rw [ih, putS_out r t _ i hi.1 (fun j hj => (h0 j (by simp [hj])).1) hnd.1, rPt_set hi.1 hi.1, if_pos ⟨rfl, hi.2⟩]
theorem res_putS_out {r q : List Int} {t s : List Pt} (h0 : ∀ i ∈ r, 0 ≤ i) (h1 : ∀ i ∈ q, 0 ≤ i) (h : ∀ i ∈ q, i ∉ r) : resP (putS r t s) q = resP s q := by
  unfold resP
  refine List.map_congr_left (fun i hi => ?_)
  exact putS_out r t s i (h1 i hi) h0 (h i hi)
/-- All ways to put parts' choices into points. -/
def fullS (P : List Int → List (List Pt)) : List (List Int) → List Pt → List (List Pt)
  | [], s => [s]
  | g :: r, s => (P g).flatMap fun t => fullS P r (putS g t s)
def prodN (P : List Int → List (List Pt)) : List (List Int) → Nat
  | [] => 1
  | g :: r => (P g).length * prodN P r
theorem flatMap_len {α β : Type} {f : α → List β} {V : Nat} : ∀ (xs : List α), (∀ x ∈ xs, (f x).length = V) → (xs.flatMap f).length = xs.length * V
  | [], _ => by simp
  | x :: r, h => by
    rw [List.flatMap_cons, List.length_append, h x (by simp), flatMap_len r (fun y hy => h y (by simp [hy])), List.length_cons, Nat.succ_mul, Nat.add_comm]
theorem full_len (P : List Int → List (List Pt)) : ∀ (gs : List (List Int)) (s : List Pt), (fullS P gs s).length = prodN P gs
  | [], _ => rfl
  | g :: r, s => by
    unfold fullS prodN
    exact flatMap_len _ (fun t _ => full_len P r _)
/-- Parts that are apart, within n points. -/
structure Apart (n : Nat) (gs : List (List Int)) : Prop where
  in_ : ∀ g ∈ gs, ∀ i ∈ g, 0 ≤ i ∧ i < (n : Int)
  nodup : ∀ g ∈ gs, g.Nodup
  apart : gs.Pairwise (fun a b => ∀ x ∈ a, x ∉ b)
theorem Apart.tail {n : Nat} {g : List Int} {r : List (List Int)} (h : Apart n (g :: r)) : Apart n r :=
  ⟨fun k hk => h.in_ k (by simp [hk]), fun k hk => h.nodup k (by simp [hk]), (List.pairwise_cons.1 h.apart).2⟩
theorem mem_full {n : Nat} (P : List Int → List (List Pt)) (hP : ∀ g t, t ∈ P g → t.length = g.length) : ∀ (gs : List (List Int)) (s : List Pt), Apart n gs → s.length = n → ∀ u, u ∈ fullS P gs s ↔ u.length = n ∧ (∀ g ∈ gs, resP u g ∈ P g) ∧ ∀ j : Int, 0 ≤ j → j < n → (∀ g ∈ gs, j ∉ g) → rPt u j = rPt s j
  | [], s, _, hs, u => by
    unfold fullS
    simp only [List.mem_singleton]
    constructor
    · rintro rfl; exact ⟨hs, by simp, fun _ _ _ _ => rfl⟩
    · rintro ⟨h1, _, h3⟩
      refine List.ext_getElem (by omega) (fun i hi hi2 => ?_)
      have := h3 i (by omega) (by omega) (by simp)
      rw [rPt_nat, rPt_nat, List.getD_eq_getElem?_getD, List.getD_eq_getElem?_getD, List.getElem?_eq_getElem hi, List.getElem?_eq_getElem hi2] at this
      exact this
  | g :: r, s, ha, hs, u => by
    unfold fullS
    rw [List.mem_flatMap]
    have hg := ha.in_ g (by simp)
    have hgn := ha.nodup g (by simp)
    have hap := (List.pairwise_cons.1 ha.apart).1
    constructor
    · rintro ⟨t, ht, hu⟩
      obtain ⟨h1, h2, h3⟩ := (mem_full P hP r _ ha.tail (by rw [putS_length]; exact hs) u).1 hu
      refine ⟨h1, fun k hk => ?_, fun j hj0 hj1 hj => ?_⟩
      · rcases List.mem_cons.1 hk with rfl | hk
        · have e : resP u k = resP (putS k t s) k := by
            unfold resP
            refine List.map_congr_left (fun i hi => ?_)
            have hb := hg i hi
            exact h3 i hb.1 hb.2 (fun q hq hm => hap q hq i hi hm)
          rw [e, putS_res k t s (fun i hi => by rw [hs]; exact hg i hi) hgn (hP k t ht)]
          exact ht
        · exact h2 k hk
      · rw [h3 j hj0 hj1 (fun q hq => hj q (by simp [hq])), putS_out g t s j hj0 (fun i hi => (hg i hi).1) (hj g (by simp))]
    · rintro ⟨h1, h2, h3⟩
      have ht := h2 g (by simp)
      refine ⟨resP u g, ht, (mem_full P hP r _ ha.tail (by rw [putS_length]; exact hs) u).2 ⟨h1, fun k hk => h2 k (by simp [hk]), fun j hj0 hj1 hj => ?_⟩⟩
      by_cases hm : j ∈ g
      · have e := putS_res g (resP u g) s (fun i hi => by rw [hs]; exact hg i hi) hgn (hP g _ ht)
        have e2 := congrArg (fun L : List Pt => rPt L (idxP g j)) e
        obtain ⟨q, hq⟩ := Int.eq_ofNat_of_zero_le (idx_in hm).1
        obtain ⟨_, q1, q2⟩ := idxP_at hq
        simp only [hq] at e2
        rw [res_at q1, res_at q1, rInt_nat, q2] at e2
        exact e2.symm
      · rw [putS_out g _ s j hj0 (fun i hi => (hg i hi).1) hm]
        exact h3 j hj0 hj1 (fun q hq => by
          rcases List.mem_cons.1 hq with rfl | hq
          · exact hm
          · exact hj q hq)
theorem full_nodup {n : Nat} (P : List Int → List (List Pt)) (hP : ∀ g t, t ∈ P g → t.length = g.length) (hn : ∀ g, (P g).Nodup) : ∀ (gs : List (List Int)) (s : List Pt), Apart n gs → s.length = n → (fullS P gs s).Nodup
  | [], s, _, _ => by unfold fullS; simp
  | g :: r, s, ha, hs => by
    unfold fullS List.Nodup
    rw [List.pairwise_flatMap]
    refine ⟨fun t _ => full_nodup P hP hn r _ ha.tail (by rw [putS_length]; exact hs), ?_⟩
    have h : (P g).Pairwise (· ≠ ·) := hn g
    have hg := ha.in_ g (by simp)
    have hap := (List.pairwise_cons.1 ha.apart).1
    refine List.Pairwise.imp_of_mem (fun {a b} ma mb h x hx y hy e => h ?_) h
    subst e
    obtain ⟨_, _, h3⟩ := (mem_full P hP r _ ha.tail (by rw [putS_length]; exact hs) x).1 hx
    obtain ⟨_, _, k3⟩ := (mem_full P hP r _ ha.tail (by rw [putS_length]; exact hs) x).1 hy
    have r1 : ∀ t, t ∈ P g → (∀ j : Int, 0 ≤ j → j < n → (∀ q ∈ r, j ∉ q) → rPt x j = rPt (putS g t s) j) → resP x g = t := by
      intro t ht h3
      have e : resP x g = resP (putS g t s) g := by
        unfold resP
        refine List.map_congr_left (fun i hi => ?_)
        have hb := hg i hi
        exact h3 i hb.1 hb.2 (fun q hq hm => hap q hq i hi hm)
      rw [e, putS_res g t s (fun i hi => by rw [hs]; exact hg i hi) (ha.nodup g (by simp)) (hP g t ht)]
    rw [← r1 a ma h3, ← r1 b mb k3]
/-- A list without repetition within another one is not longer. -/
theorem nodup_len {α : Type} [DecidableEq α] : ∀ (a b : List α), a.Nodup → (∀ x ∈ a, x ∈ b) → a.length ≤ b.length
  | [], _, _, _ => by simp
  | x :: r, b, hn, h => by
    have hnd := List.nodup_cons.1 hn
    have hx := h x (by simp)
    have := nodup_len r (b.erase x) hnd.2 (fun y hy => (List.mem_erase_of_ne (fun e => hnd.1 (by rw [← e]; exact hy))).2 (h y (by simp [hy])))
    rw [List.length_erase_of_mem hx] at this
    have := List.length_pos_of_mem hx
    simp only [List.length_cons]
    omega
end Bs
