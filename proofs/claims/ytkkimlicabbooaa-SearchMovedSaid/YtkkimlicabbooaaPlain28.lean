/-
  Plain words of package search: boxes that are moved, and facts in another order. No program in sight.
-/
import Derived.Test.YtkkimlicabbooaaPlain27
namespace Bs
set_option linter.unusedVariables false
set_option linter.unusedSimpArgs false

def mvS (c : Int) (s : Spn) : Spn := ⟨s.lo + c, s.hi + c⟩
def mvB (v : Pt) (b : Bx) : Bx := ⟨mvS v.x b.x, mvS v.y b.y⟩
def mvP (v : Pt) (x : Pt) : Pt := ⟨x.x + v.x, x.y + v.y⟩
def mvL (v : Pt) (l : List Bx) : List Bx := l.map (mvB v)
def mvT (v : Pt) (t : List Pt) : List Pt := t.map (mvP v)
theorem mvL_length (v : Pt) (l : List Bx) : (mvL v l).length = l.length := by simp [mvL]
theorem rBx_mv {v : Pt} {l : List Bx} {i : Int} (h0 : 0 ≤ i) (h : i < l.length) : rBx (mvL v l) i = mvB v (rBx l i) := by
  unfold rBx mvL
  have hl : i.toNat < l.length := by omega
  rw [List.getD_eq_getElem?_getD, List.getD_eq_getElem?_getD, List.getElem?_map, List.getElem?_eq_getElem hl]; rfl
theorem rPt_mv {v : Pt} {l : List Pt} {i : Int} (h0 : 0 ≤ i) (h : i < l.length) : rPt (mvT v l) i = mvP v (rPt l i) := by
  unfold rPt mvT
  have hl : i.toNat < l.length := by omega
  rw [List.getD_eq_getElem?_getD, List.getD_eq_getElem?_getD, List.getElem?_map, List.getElem?_eq_getElem hl]; rfl
def opp (v : Pt) : Pt := ⟨-v.x, -v.y⟩
theorem mvB_opp (v : Pt) (b : Bx) : mvB (opp v) (mvB v b) = b := by
  obtain ⟨⟨a, c⟩, ⟨d, e⟩⟩ := b
  simp only [mvB, mvS, opp, Bx.mk.injEq, Spn.mk.injEq]; omega
theorem mvL_opp (v : Pt) (l : List Bx) : mvL (opp v) (mvL v l) = l := by
  unfold mvL
  rw [List.map_map]
  conv => rhs; rw [← List.map_id l]
  exact List.map_congr_left (fun b _ => mvB_opp v b)
theorem mvP_inj {v x y : Pt} (h : mvP v x = mvP v y) : x = y := by
  obtain ⟨a, b⟩ := x; obtain ⟨c, d⟩ := y
  simp only [mvP, Pt.mk.injEq] at h ⊢; omega
theorem mvT_inj {v : Pt} : ∀ {s t : List Pt}, mvT v s = mvT v t → s = t
  | [], [], _ => rfl
  | [], _ :: _, h => by simp [mvT] at h
  | _ :: _, [], h => by simp [mvT] at h
  | x :: s, y :: t, h => by
    simp only [mvT, List.map_cons, List.cons.injEq] at h
    rw [mvP_inj h.1, mvT_inj (s := s) (t := t) h.2]
theorem turn_mv (v p q r : Pt) : turnP (mvP v p) (mvP v q) (mvP v r) = turnP p q r := by simp only [turnP, mvP]; grind
theorem corners_mv (v : Pt) (b : Bx) : cornersL (mvB v b) = (cornersL b).map (mvP v) := rfl
theorem turns_mv (v : Pt) (a b c : Bx) : turnsL (mvB v a) (mvB v b) (mvB v c) = turnsL a b c := by
  unfold turnsL
  simp only [corners_mv, List.flatMap_map, List.map_map, Function.comp_def, turn_mv]
/-- A fact looks at differences alone. -/
theorem bare_mv {f : Fct} {v : Pt} {l : List Bx} (hf : formedB f l.length = true) : bareP f (mvL v l) = bareP f l := by
  obtain ⟨⟨a0, a1⟩, ⟨b0, b1⟩, hc, _⟩ := formed_at hf
  have ea := rBx_mv (v := v) a0 a1
  have eb := rBx_mv (v := v) b0 b1
  have h1 : vecX f (mvL v l) = vecX f l := by simp only [vecX, ea, eb, mvB, mvS, Spn.mk.injEq]; omega
  have h2 : vecY f (mvL v l) = vecY f l := by simp only [vecY, ea, eb, mvB, mvS, Spn.mk.injEq]; omega
  have h3 : f.kind = 2 → turnV f (mvL v l) = turnV f l := fun hk => by simp only [turnV, ea, eb, rBx_mv (v := v) (hc hk).1 (hc hk).2, turns_mv]
  unfold bareP
  split
  · rename_i hk; rw [h3 hk]
  · simp only [quarX, quarY, distV, h1, h2]
theorem fails_mv {f : Fct} {v : Pt} {l : List Bx} (hf : formedB f l.length = true) : failsP f (mvL v l) = failsP f l := by
  unfold failsP; rw [bare_mv hf]
theorem set_mv (v : Pt) (l : List Bx) (i : Nat) (b : Bx) : (mvL v l).set i (mvB v b) = mvL v (l.set i b) := by unfold mvL; rw [List.map_set]
theorem stripB_mv (v : Pt) (b : Bx) (k : Nat) : stripB (mvB v b) k = mvB v (stripB b k) := by rcases k with _ | _ | _ | k <;> rfl
theorem cutB_mv (v : Pt) (b : Bx) (k : Nat) : cutB (mvB v b) k = mvB v (cutB b k) := by
  obtain ⟨⟨a, c⟩, ⟨d, e⟩⟩ := b
  rcases k with _ | _ | _ | k <;> simp only [cutB, mvB, mvS, Bx.mk.injEq, Spn.mk.injEq, and_true, true_and] <;> omega
theorem spanOf_mv (v : Pt) (b : Bx) (k : Nat) : (spanOf (mvB v b) k).hi - (spanOf (mvB v b) k).lo = (spanOf b k).hi - (spanOf b k).lo := by
  rcases k with _ | _ | k <;> simp only [spanOf, mvB, mvS] <;> omega
theorem stripP_mv {v : Pt} {l : List Bx} {p k : Nat} (hp : p < l.length) : stripP (mvL v l) p k = mvL v (stripP l p k) := by
  unfold stripP
  rw [rBx_mv (by omega) (by omega), stripB_mv, set_mv]
theorem cutP_mv {v : Pt} {l : List Bx} {p k : Nat} (hp : p < l.length) : cutP (mvL v l) p k = mvL v (cutP l p k) := by
  unfold cutP
  rw [rBx_mv (by omega) (by omega), cutB_mv, set_mv]
theorem any_mv {fs gs : List Fct} {v : Pt} {l : List Bx} (hs : ∀ f ∈ fs, f ∈ gs) (hf : Fm fs l.length) (h : AnyFails fs l) : AnyFails gs (mvL v l) := by
  obtain ⟨f, hm, hx⟩ := h
  exact ⟨f, hs f hm, by rw [fails_mv (hf f hm)]; exact hx⟩
theorem ne_mv {v : Pt} {l : List Bx} (h : Ne l) : Ne (mvL v l) := by
  intro i hi
  rw [mvL_length] at hi
  rw [rBx_mv (by omega) (by omega)]
  obtain ⟨h1, h2⟩ := h i hi
  simp only [mvB, mvS]; omega
theorem cuts_mv {fs gs : List Fct} {v : Pt} {l l' : List Bx} (hs : ∀ f ∈ fs, f ∈ gs) (hf : Fm fs l.length) (h : Cuts fs l l') : Cuts gs (mvL v l) (mvL v l') := by
  induction h with
  | refl => exact .refl _
  | @step l' p k h1 hp hk hlt ha ih =>
    have hl := h1.length
    rw [← cutP_mv hp]
    refine Cuts.step ih (by rw [mvL_length]; exact hp) hk ?_ ?_
    · rw [rBx_mv (by omega) (by omega)]
      have := spanOf_mv v (rBx l' p) k
      omega
    · rw [stripP_mv hp]
      exact any_mv hs (by rw [stripP_length, hl]; exact hf) ha
/-- The facts are the same, in any order. -/
def Same (fs gs : List Fct) : Prop := ∀ f, f ∈ fs ↔ f ∈ gs
theorem Same.fm {fs gs : List Fct} {n : Nat} (h : Same fs gs) (hf : Fm fs n) : Fm gs n := fun f hm => hf f ((h f).2 hm)
theorem nbox_mv {fs gs : List Fct} {v : Pt} {l l' : List Bx} (hs : Same fs gs) (hf : Fm fs l.length) (h : NBox fs l l') : NBox gs (mvL v l) (mvL v l') := by
  refine ⟨cuts_mv (fun f hm => (hs f).1 hm) hf h.1, fun p k hp hk f hm hn => ?_⟩
  rw [mvL_length] at hp
  have hl := h.len
  rw [stripP_mv hp, fails_mv (by rw [stripP_length, hl]; exact hf f ((hs f).2 hm))]
  exact h.2 p k hp hk f ((hs f).2 hm) hn
theorem narrow_mv {fs gs : List Fct} {v : Pt} {l : List Bx} (hs : Same fs gs) (hn : Ne l) (hf : Fm fs l.length) : narrowP gs (mvL v l) = (narrowP fs l).map (mvL v) := by
  have hf2 : Fm gs (mvL v l).length := by rw [mvL_length]; exact hs.fm hf
  cases hx : narrowP fs l with
  | some r => exact narrowP_some (ne_mv hn) hf2 (nbox_mv hs hf (narrowP_box hn hx))
  | none =>
    refine narrowP_none (ne_mv hn) hf2 ?_
    obtain ⟨r, h1, h2⟩ := narrowP_empty hn hx
    exact ⟨_, cuts_mv (fun f hm => (hs f).1 hm) hf h1, any_mv (fun f hm => (hs f).1 hm) (by rw [h1.length]; exact hf) h2⟩
theorem rBx_out {l : List Bx} {i : Int} (h : l.length ≤ i.toNat) : rBx l i = ⟨⟨0, 0⟩, ⟨0, 0⟩⟩ := by
  unfold rBx
  rw [List.getD_eq_getElem?_getD, List.getElem?_eq_none h]; rfl
theorem side_mv (v : Pt) (l : List Bx) (i : Int) : (rBx (mvL v l) i).x.hi - (rBx (mvL v l) i).x.lo = (rBx l i).x.hi - (rBx l i).x.lo ∧ (rBx (mvL v l) i).y.hi - (rBx (mvL v l) i).y.lo = (rBx l i).y.hi - (rBx l i).y.lo := by
  by_cases h : i.toNat < l.length
  · have e : rBx (mvL v l) i = mvB v (rBx l i) := by
      unfold rBx mvL
      rw [List.getD_eq_getElem?_getD, List.getD_eq_getElem?_getD, List.getElem?_map, List.getElem?_eq_getElem h]; rfl
    rw [e]
    simp only [mvB, mvS]; omega
  · rw [rBx_out (by rw [mvL_length]; omega), rBx_out (by omega)]
    simp
theorem vol_mv (v : Pt) (l : List Bx) (gs : List (List Int)) : volP (mvL v l) gs = volP l gs := by
  have h1 : ∀ m n i, volStep (mvL v l) m n i = volStep l m n i := by
    intro m n i
    obtain ⟨e1, e2⟩ := side_mv v l i
    unfold volStep
    rw [e1, e2]
  have h2 : volStep (mvL v l) = volStep l := by funext m n i; exact h1 m n i
  have h3 : volMax (mvL v l) = volMax l := by
    funext n g
    unfold volMax volG
    rw [h2]
  unfold volP
  rw [h3]
theorem putB_mv (v : Pt) : ∀ (g : List Int) (t : List Pt) (l : List Bx), putB g (mvT v t) (mvL v l) = mvL v (putB g t l)
  | [], _, _ => rfl
  | _ :: _, [], _ => rfl
  | i :: r, x :: t, l => by
    show putB r (mvT v t) ((mvL v l).set i.toNat (atP (mvP v x))) = _
    rw [show atP (mvP v x) = mvB v (atP x) from rfl, set_mv, putB_mv v r t]
    rfl
theorem inB_mv {v x : Pt} {b : Bx} (h : inB x b) : inB (mvP v x) (mvB v b) := by
  unfold inB at h ⊢
  simp only [mvP, mvB, mvS]; omega
theorem psol_mv {fs gs : List Fct} {v : Pt} {l : List Bx} (hs : Same fs gs) (hf : Fm fs l.length) {g : List Int} (hg : PartOk fs l.length g) {t : List Pt} (h : PSol fs l g t) : PSol gs (mvL v l) g (mvT v t) := by
  have hl := h.len
  refine ⟨by simp [mvT, hl], fun k hk => ?_, fun f hm ha => ?_⟩
  · have hi := hg.in_ (rInt g k) (by rw [rInt_nat]; exact mem_get hk)
    rw [rPt_mv (by omega) (by omega), rBx_mv hi.1 hi.2]
    exact inB_mv (h.box k hk)
  · have hm2 := (hs f).2 hm
    rw [putB_mv, fails_mv (by rw [putB_length]; exact hf f hm2)]
    exact h.fact f hm2 ha
theorem PartOk.same {fs gs : List Fct} {n : Nat} {g : List Int} (hs : Same fs gs) (h : PartOk fs n g) : PartOk gs n g := ⟨h.nodup, h.in_, fun f hm ha => h.fact f ((hs f).2 hm) ha⟩
theorem partS_le {fs gs : List Fct} {v : Pt} {l : List Bx} (hs : Same fs gs) (hf : Fm fs l.length) {g : List Int} (hg : PartOk fs l.length g) : (partS fs l g).length ≤ (partS gs (mvL v l) g).length := by
  have h := nodup_len ((partS fs l g).map (mvT v)) (partS gs (mvL v l) g) (by
    unfold List.Nodup
    rw [List.pairwise_map]
    have : (partS fs l g).Pairwise (· ≠ ·) := partS_nodup fs l g
    exact this.imp (fun {a b} h e => h (mvT_inj e))) (fun x hx => by
    obtain ⟨t, ht, rfl⟩ := List.mem_map.1 hx
    refine (mem_partS (by rw [mvL_length]; exact hs.fm hf) (by rw [mvL_length]; exact hg.same hs) _).2 ?_
    exact psol_mv hs hf hg ((mem_partS hf hg t).1 ht))
  simpa using h
theorem partS_mv {fs gs : List Fct} {v : Pt} {l : List Bx} (hs : Same fs gs) (hf : Fm fs l.length) {g : List Int} (hg : PartOk fs l.length g) : (partS gs (mvL v l) g).length = (partS fs l g).length := by
  have h1 := partS_le (v := v) hs hf hg
  have h2 := partS_le (v := opp v) (fs := gs) (gs := fs) (l := mvL v l) (g := g) (fun f => (hs f).symm) (by rw [mvL_length]; exact hs.fm hf) (by rw [mvL_length]; exact hg.same hs)
  rw [mvL_opp] at h2
  omega
theorem count_cnt : ∀ (ss tt : List Seen) (N : Int), ss.map (·.cnt) = tt.map (·.cnt) → countGo N ss = countGo N tt
  | [], [], _, _ => rfl
  | [], _ :: _, _, h => by simp at h
  | _ :: _, [], _, h => by simp at h
  | s :: r, t :: q, N, h => by
    simp only [List.map_cons, List.cons.injEq] at h
    unfold countGo
    rw [h.1, count_cnt r q _ h.2]
/-- find, of a problem that is moved. -/
theorem find_mv {p q : Prob} {v : Pt} (hb : q.boxes = mvL v p.boxes) (hs : Same p.facts q.facts) (hn : Ne p.boxes) (hf : Fm p.facts p.boxes.length) :
    (findP q).err = (findP p).err ∧ (findP q).empty = (findP p).empty ∧ (findP q).parts.map (·.cnt) = (findP p).parts.map (·.cnt) := by
  have hl : q.boxes.length = p.boxes.length := by rw [hb, mvL_length]
  have hp : partsP q.facts q.boxes.length = partsP p.facts p.boxes.length := by rw [hl]; exact (parts_same hs hf).symm
  have hq : narrowP q.facts q.boxes = (narrowP p.facts p.boxes).map (mvL v) := by rw [hb]; exact narrow_mv hs hn hf
  cases hx : narrowP p.facts p.boxes with
  | none =>
    rw [hx] at hq
    simp only [findP, hx, hq, Option.map_none]
    exact ⟨trivial, trivial, trivial⟩
  | some l =>
    rw [hx] at hq
    have hlb := narrowP_box hn hx
    have hll := hlb.len
    have hne := (hlb.sub hn).ne
    have hc : ∀ g ∈ partsP p.facts p.boxes.length, (seenP q.facts (mvL v l) g).cnt = (seenP p.facts l g).cnt := by
      intro g hg
      have ho : PartOk p.facts l.length g := by rw [hll]; exact partOk hf hg
      have hfl : Fm p.facts l.length := by rw [hll]; exact hf
      rw [seen_cnt hne hfl ho, seen_cnt (ne_mv hne) (by rw [mvL_length]; exact hs.fm hfl) (by rw [mvL_length]; exact ho.same hs), partS_mv hs hfl ho]
    simp only [findP, hx, hq, Option.map_some, hp, vol_mv]
    split
    · exact ⟨rfl, rfl, rfl⟩
    · refine ⟨rfl, ?_, ?_⟩
      · dsimp only
        rw [List.any_map, List.any_map]
        have : ∀ gs : List (List Int), (∀ g ∈ gs, g ∈ partsP p.facts p.boxes.length) → gs.any ((fun s : Seen => s.cnt == 0) ∘ seenP q.facts (mvL v l)) = gs.any ((fun s : Seen => s.cnt == 0) ∘ seenP p.facts l) := by
          intro gs
          induction gs with
          | nil => intro _; rfl
          | cons g r ih =>
            intro h
            rw [List.any_cons, List.any_cons, ih (fun k hk => h k (by simp [hk]))]
            simp only [Function.comp, hc g (h g (by simp))]
        exact this _ (fun g hg => hg)
      · dsimp only
        rw [List.map_map, List.map_map]
        exact List.map_congr_left (fun g hg => hc g hg)
theorem sol_mv {fs gs : List Fct} {v : Pt} {l : List Bx} {s : List Pt} (hs : Same fs gs) (hf : Fm fs l.length) (h : Sol fs l s) : Sol gs (mvL v l) (mvT v s) := by
  have hl := h.len
  have ha : aloneP (mvT v s) = mvL v (aloneP s) := by unfold aloneP mvT mvL; rw [List.map_map, List.map_map]; rfl
  refine ⟨by rw [mvL_length]; simp [mvT, hl], fun i hi => ?_, fun f hm => ?_⟩
  · rw [mvL_length] at hi
    rw [rPt_mv (by omega) (by omega), rBx_mv (by omega) (by omega)]
    exact inB_mv (h.box i hi)
  · rw [ha, fails_mv (by rw [alone_length, hl]; exact hf f ((hs f).2 hm))]
    exact h.fact f ((hs f).2 hm)
theorem mvT_opp (v : Pt) (t : List Pt) : mvT v (mvT (opp v) t) = t := by
  unfold mvT
  rw [List.map_map]
  conv => rhs; rw [← List.map_id t]
  refine List.map_congr_left (fun b _ => ?_)
  obtain ⟨a, c⟩ := b
  simp only [Function.comp, mvP, opp, id, Pt.mk.injEq]; omega
theorem sol_mv_iff {fs gs : List Fct} {v : Pt} {l : List Bx} {s : List Pt} (hs : Same fs gs) (hf : Fm fs l.length) : Sol gs (mvL v l) s ↔ Sol fs l (mvT (opp v) s) := by
  constructor
  · intro h
    have := sol_mv (v := opp v) (fs := gs) (gs := fs) (fun f => (hs f).symm) (by rw [mvL_length]; exact hs.fm hf) h
    rwa [mvL_opp] at this
  · intro h
    have := sol_mv (v := v) hs hf h
    rwa [mvT_opp] at this
theorem hull_mv {fs gs : List Fct} {v : Pt} {l : List Bx} {i : Int} {b : Bx} (hs : Same fs gs) (hf : Fm fs l.length) (h0 : 0 ≤ i) (hi : i < l.length) (h : IsHull (Sol fs l) i b) : IsHull (Sol gs (mvL v l)) i (mvB v b) := by
  have up : ∀ s, Sol fs l s → Sol gs (mvL v l) (mvT v s) ∧ rPt (mvT v s) i = mvP v (rPt s i) := fun s hm => ⟨sol_mv hs hf hm, rPt_mv h0 (by rw [hm.len]; exact hi)⟩
  obtain ⟨h1, h2, h3, h4, h5⟩ := h
  refine ⟨?_, ?_, ?_, ?_, fun s hm => ?_⟩
  · obtain ⟨s, hm, e⟩ := h1; exact ⟨_, (up s hm).1, by rw [(up s hm).2]; simp only [mvP, mvB, mvS, e]⟩
  · obtain ⟨s, hm, e⟩ := h2; exact ⟨_, (up s hm).1, by rw [(up s hm).2]; simp only [mvP, mvB, mvS, e]⟩
  · obtain ⟨s, hm, e⟩ := h3; exact ⟨_, (up s hm).1, by rw [(up s hm).2]; simp only [mvP, mvB, mvS, e]⟩
  · obtain ⟨s, hm, e⟩ := h4; exact ⟨_, (up s hm).1, by rw [(up s hm).2]; simp only [mvP, mvB, mvS, e]⟩
  · have hm2 := (sol_mv_iff hs hf).1 hm
    have := h5 _ hm2
    have e : rPt s i = mvP v (rPt (mvT (opp v) s) i) := by
      rw [← rPt_mv h0 (by rw [hm2.len]; exact hi), mvT_opp]
    rw [e]
    exact inB_mv this
/-- What the theorem asks of a moved problem. -/
theorem moved_law {p q : Prob} {v : Pt} (hb : q.boxes = mvL v p.boxes) (hs : Same p.facts q.facts) (hl : q.facts.length = p.facts.length) (hc : checkP p = 0) (hc2 : checkP q = 0) (f : Fct) :
    (narrowE q = (mvL v (narrowE p).1, (narrowE p).2)) ∧ (hullP q = (mvL v (hullP p).1, (hullP p).2)) ∧ countP q = countP p ∧ decideP q f = decideP p f := by
  obtain ⟨_, _, h3, h4⟩ := check_zero hc
  have hn := ne_of_small h3
  have hf := fm_of h4
  obtain ⟨e1, e2, e3⟩ := find_mv hb hs hn hf
  have s1 : solvedP p = findP p := by unfold solvedP; rw [if_pos hc]
  have s2 : solvedP q = findP q := by unfold solvedP; rw [if_pos hc2]
  have hll : q.boxes.length = p.boxes.length := by rw [hb, mvL_length]
  refine ⟨?_, ?_, ?_, ?_⟩
  · have hq : narrowP q.facts q.boxes = (narrowP p.facts p.boxes).map (mvL v) := by rw [hb]; exact narrow_mv hs hn hf
    unfold narrowE
    rw [if_pos hc, if_pos hc2, hq]
    cases narrowP p.facts p.boxes <;> rfl
  · have er : (hullP q).2 = (hullP p).2 := by
      unfold hullP
      dsimp only
      rw [s1, s2, e1, e2]
      (repeat' split) <;> rfl
    refine Prod.ext ?_ er
    by_cases h0 : (hullP p).2 = 0
    · obtain ⟨_, _, _, a1, a2⟩ := hull_ok h0
      obtain ⟨_, _, _, b1, b2⟩ := hull_ok (p := q) (by rw [er]; exact h0)
      refine list_ext_rBx (by rw [b1, hll]; show _ = (mvL v (hullP p).1).length; rw [mvL_length, a1]) (fun i hi => ?_)
      rw [b1, hll] at hi
      show rBx (hullP q).1 (i : Int) = rBx (mvL v (hullP p).1) (i : Int)
      rw [rBx_mv (by omega) (by omega)]
      have k1 := hull_mv (v := v) hs hf (by omega) (by omega) (a2 i hi)
      have k2 := b2 i (by omega)
      rw [hb] at k2
      exact k2.unique k1 (fun s => Iff.rfl)
    · have e : ∀ r : Prob, (hullP r).2 ≠ 0 → (hullP r).1 = [] := by
        intro r hr
        unfold hullP at hr ⊢
        dsimp only at hr ⊢
        split
        · rename_i h
          rw [if_pos h] at hr
          split
          · rfl
          · rename_i h2; rw [if_neg h2] at hr; exact absurd rfl hr
        · rfl
      show (hullP q).1 = mvL v (hullP p).1
      rw [e p h0, e q (by rw [er]; exact h0)]; rfl
  · unfold countP
    dsimp only
    rw [s1, s2, e1, e2]
    split
    · exact count_cnt _ _ _ e3
    · rfl
  · have hfu : furtherP q f = furtherP p f := by unfold furtherP; rw [hc, hc2, hll, hl]
    unfold decideP
    rw [hfu]
    split
    · rename_i h0
      obtain ⟨_, hff, _⟩ := further_zero h0
      have w : ∀ t, Same (withP p f t).facts (withP q f t).facts := fun t x => by
        simp only [withP, List.mem_append]
        rw [hs x]
      have wf : ∀ t, Fm (withP p f t).facts p.boxes.length := fun t x hx => by
        simp only [withP, List.mem_append, List.mem_singleton] at hx
        rcases hx with hx | rfl
        · exact hf x hx
        · exact hff
      obtain ⟨a1, a2, _⟩ := find_mv (p := withP p f false) (q := withP q f false) (v := v) hb (w false) hn (wf false)
      obtain ⟨b1, b2, _⟩ := find_mv (p := withP p f true) (q := withP q f true) (v := v) hb (w true) hn (wf true)
      dsimp only
      rw [e1, e2, a1, a2, b1, b2]
    · rfl
end Bs
