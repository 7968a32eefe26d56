/-
  Plain words of package search: solutions; narrowing keeps them. No program in sight.
-/
import Derived.Test.YtkkimlicabbooaaP1
namespace Bs
set_option linter.unusedVariables false
set_option linter.unusedSimpArgs false

/-- Points that lie in the boxes and for which no fact fails. -/
structure Sol (fs : List Fct) (l : List Bx) (s : List Pt) : Prop where
  len : s.length = l.length
  box : ∀ i : Nat, i < l.length → inB (rPt s i) (rBx l i)
  fact : ∀ f ∈ fs, failsP f (aloneP s) = false
theorem alone_length (s : List Pt) : (aloneP s).length = s.length := by simp [aloneP]
theorem rBx_alone {s : List Pt} {i : Nat} (h : i < s.length) : rBx (aloneP s) (i : Int) = atP (rPt s i) := by
  rw [rBx_nat, rPt_nat, aloneP, List.getD_eq_getElem?_getD, List.getD_eq_getElem?_getD, List.getElem?_map, List.getElem?_eq_getElem h]; rfl
theorem rBx_alone_int {s : List Pt} {i : Int} (h0 : 0 ≤ i) (h : i < s.length) : rBx (aloneP s) i = atP (rPt s i) := by
  obtain ⟨j, rfl⟩ := Int.eq_ofNat_of_zero_le h0
  exact rBx_alone (by omega)
theorem sub_at {x : Pt} {b : Bx} : SubB (atP x) b ↔ inB x b := by
  unfold inB
  constructor
  · rintro ⟨⟨x1, x2, x3⟩, ⟨y1, y2, y3⟩⟩; exact ⟨x1, x3, y1, y3⟩
  · rintro ⟨h1, h2, h3, h4⟩; exact ⟨⟨h1, Int.le_refl _, h2⟩, ⟨h3, Int.le_refl _, h4⟩⟩
theorem alone_sub {s : List Pt} {l : List Bx} (hl : s.length = l.length) (h : ∀ i : Nat, i < l.length → inB (rPt s i) (rBx l i)) : SubL (aloneP s) l := by
  refine ⟨by rw [alone_length, hl], fun i hi => ?_⟩
  rw [alone_length] at hi
  rw [rBx_alone hi]
  exact sub_at.2 (h i (by omega))
theorem alone_box {s : List Pt} {l : List Bx} (h : SubL (aloneP s) l) {i : Nat} (hi : i < l.length) : inB (rPt s i) (rBx l i) := by
  have hl := h.len
  rw [alone_length] at hl
  have := h.at_ i (by rw [alone_length]; omega)
  rw [rBx_alone (by omega)] at this
  exact sub_at.1 this
theorem Sol.sub {fs : List Fct} {l : List Bx} {s : List Pt} (h : Sol fs l s) : SubL (aloneP s) l := alone_sub h.len h.box
theorem strip_alone {s : List Pt} {p k : Nat} (hp : p < s.length) (hk : k < 4) : stripP (aloneP s) p k = aloneP s := by
  refine strip_eq (by rw [alone_length]; exact hp) hk ?_
  rw [rBx_alone hp]
  rcases k with _ | _ | k <;> rfl
theorem Sol.shut {fs : List Fct} {l : List Bx} {s : List Pt} (h : Sol fs l s) : Shut fs (aloneP s) := by
  rintro p k hp hk ⟨f, hm, hx⟩
  rw [alone_length] at hp
  rw [strip_alone hp hk, h.fact f hm] at hx
  cases hx
theorem Sol.of_sub {fs : List Fct} {l m : List Bx} {s : List Pt} (h : Sol fs l s) (k : SubL (aloneP s) m) : Sol fs m s :=
  ⟨by have := k.len; rwa [alone_length] at this, fun i hi => alone_box k hi, h.fact⟩
/-- Narrowing keeps the solutions. -/
theorem sol_narrow {fs : List Fct} {l0 l : List Bx} (hn : Ne l0) (hf : Fm fs l0.length) (h : narrowP fs l0 = some l) (s : List Pt) : Sol fs l0 s ↔ Sol fs l s := by
  have hb := narrowP_box hn h
  constructor
  · intro hs
    exact hs.of_sub (hb.greatest hf hs.shut hs.sub)
  · intro hs
    exact hs.of_sub (hs.sub.trans (hb.sub hn))
theorem sol_none {fs : List Fct} {l0 : List Bx} (hn : Ne l0) (hf : Fm fs l0.length) (h : narrowP fs l0 = none) (s : List Pt) : ¬ Sol fs l0 s := by
  intro hs
  exact shut_not_empty hs.shut hs.sub hf (narrowP_empty hn h)
/-- On points alone a bare fact can hold exactly if it must. -/
theorem amt_alone (a : Int) : amtLo a a = amtHi a a := by unfold amtLo amtHi; (repeat' split) <;> omega
theorem turns_alone (p q r : Pt) : ∀ t ∈ turnsL (atP p) (atP q) (atP r), t = turnP p q r := by
  intro t ht
  obtain ⟨a, ha, b, hb, c, hc, rfl⟩ := turnsL_mem ht
  have e : ∀ x y : Pt, y ∈ cornersL (atP x) → y = x := by
    intro x y h
    simp [cornersL, atP] at h
    exact h
  rw [e _ _ ha, e _ _ hb, e _ _ hc]
theorem turnV_alone (p q r : Pt) : minL (turnsL (atP p) (atP q) (atP r)) = turnP p q r ∧ maxL (turnsL (atP p) (atP q) (atP r)) = turnP p q r :=
  ⟨turns_alone p q r _ (minL_mem (turnsL_ne _ _ _)), turns_alone p q r _ (maxL_mem (turnsL_ne _ _ _))⟩
theorem bare_alone {f : Fct} {s : List Pt} (hf : formedB f s.length = true) : (bareP f (aloneP s)).1 = (bareP f (aloneP s)).2 := by
  obtain ⟨⟨a0, a1⟩, ⟨b0, b1⟩, hc, _, _⟩ := formed_at hf
  have ea := rBx_alone_int a0 a1
  have eb := rBx_alone_int b0 b1
  have hx : (vecX f (aloneP s)).lo = (vecX f (aloneP s)).hi := by simp only [vecX, ea, eb, atP]
  have hy : (vecY f (aloneP s)).lo = (vecY f (aloneP s)).hi := by simp only [vecY, ea, eb, atP]
  have cm : ∀ S : Spn, S.lo = S.hi → canV f S.lo S.hi = mustV f S.lo S.hi := by intro S h; unfold canV mustV; rw [h, Bool.and_comm]
  have fa : ∀ S : Spn, S.lo = S.hi → (amt S).lo = (amt S).hi := by intro S h; simp only [amt, h, amt_alone]
  have fn : ∀ S : Spn, S.lo = S.hi → (neg S).lo = (neg S).hi := by intro S h; simp only [neg, h]
  have qx : (quarX f (aloneP s)).lo = (quarX f (aloneP s)).hi := by
    unfold quarX
    split
    · exact hy
    · split
      · exact fn _ hx
      · split
        · exact fn _ hy
        · exact hx
  have qy : (quarY f (aloneP s)).lo = (quarY f (aloneP s)).hi := by
    unfold quarY
    split
    · exact hx
    · split
      · exact hy
      · split
        · exact hx
        · exact hy
  unfold bareP
  split
  · rename_i hk
    have ec := rBx_alone_int (hc hk).1 (hc hk).2
    have ht := turnV_alone (rPt s f.a) (rPt s f.b) (rPt s f.c)
    exact cm (turnV f (aloneP s)) (by simp only [turnV, ea, eb, ec, ht.1, ht.2])
  · split
    · simp only [quarCan, quarMust, qx, fa _ qy]
    · split
      · simp only [fa _ hx, fa _ hy]
      · split
        · exact cm _ hx
        · split
          · exact cm _ hy
          · exact cm (distV f (aloneP s)) (by simp only [distV, fa _ hx, fa _ hy])
/-- A fact fails for points exactly if the opposite one does not. -/
theorem fails_against {f : Fct} {s : List Pt} (hf : formedB f s.length = true) : failsP { f with no := !f.no } (aloneP s) = !failsP f (aloneP s) := by
  have h := bare_alone hf
  have e : bareP { f with no := !f.no } (aloneP s) = bareP f (aloneP s) := rfl
  unfold failsP
  rw [e, h]
  cases f.no <;> cases (bareP f (aloneP s)).2 <;> rfl
theorem formed_no (f : Fct) (b : Bool) (n : Int) : formedB { f with no := b } n = formedB f n := rfl
end Bs
