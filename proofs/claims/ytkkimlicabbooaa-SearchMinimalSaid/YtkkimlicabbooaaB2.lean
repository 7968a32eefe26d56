/-
  Package search, walked: part 2.
-/
import Derived.Test.YtkkimlicabbooaaB1
import Derived.Test.YtkkimlicabbooaaP1
import Derived.Laws.EntriesVeiled
import Derived.Deep.RegionLaw
import Derived.Maps.AppendAt
import Derived.Lib.SliceRun
/-
  look of package search: what its closure works on, in memory.
-/
namespace Go.Proofs.Ytkkimlicabbooaa
open Go.RowKit Go.Proofs.YtkkimlicabbooaaW.PrintWords Bs
attribute [local go_sem] Later.cell? Later.frozen?
set_option linter.unusedVariables false
set_option linter.unusedSimpArgs false

/-- Where look keeps what it works on. -/
structure Cp where
  (bPart bS bPt bL bHr bP bMn bCh S EN HR PT m n nf cPart cPt cL cHr cF cMn cEn : Nat)
  (aPart aL aF aMn : Option Addr)
  base : Nat
/-- The blocks that choose does not write. -/
def Cp.out (c : Cp) (k : Nat) : Prop := k ≠ c.S ∧ k ≠ c.EN ∧ k ≠ c.HR ∧ k ≠ c.PT
def ptr (b : Nat) : Value := .pointer (some ⟨b, 0, none⟩)
def Cp.lb (c : Cp) : Array Value := #[ptr c.bPart, ptr c.bS, ptr c.bPt, ptr c.bL, ptr c.bHr, ptr c.bP, ptr c.bMn, ptr c.bCh]

structure LS (c : Cp) (part : List Int) (fs : List Fct) (l : List Bx) (mine : List (List Int)) (w0 : World) : Prop where
  hpart : kInt.C w0 c.aPart c.m part
  hl : kBx.C w0 c.aL c.n l
  hfs : kFct.C w0 c.aF c.nf fs
  base : c.base = w0.heap.size
  lS : c.base ≤ c.S
  lE : c.base ≤ c.EN
  lH : c.base ≤ c.HR
  lP : c.base ≤ c.PT
  d1 : c.S ≠ c.EN
  d2 : c.S ≠ c.HR
  d3 : c.S ≠ c.PT
  d4 : c.EN ≠ c.HR
  d5 : c.EN ≠ c.PT
  d6 : c.HR ≠ c.PT
  o0 : c.out c.bPart
  o1 : c.out c.bS
  o2 : c.out c.bPt
  o3 : c.out c.bL
  o4 : c.out c.bHr
  o5 : c.out c.bP
  o6 : c.out c.bMn
  o7 : c.out c.bCh
  hf : AllFormed fs c.n
  hv : AllValid l
  nd : part.Nodup
  pin : ∀ i ∈ part, 0 ≤ i ∧ i < (c.n : Int)
  min : ∀ k, ∀ i ∈ rRow mine k, 0 ≤ i ∧ i < (c.nf : Int)
  m2 : 2 ≤ c.m
  n1 : 0 < c.n
  m12 : c.m ≤ 12
  n12 : c.n ≤ 12
  nf60 : c.nf ≤ 1000

structure LK (c : Cp) (mine : List (List Int)) (w0 W : World) (st : See) (H : List Bx) (P : List Pt) : Prop where
  B : Below w0.heap.size w0 W
  p0 : W.cell? ⟨c.bPart, 0, none⟩ = some (.slice c.aPart c.m c.cPart)
  p1 : W.cell? ⟨c.bS, 0, none⟩ = some (.pointer (some ⟨c.S, 0, none⟩))
  p2 : W.cell? ⟨c.bPt, 0, none⟩ = some (.slice (some ⟨c.PT, 0, none⟩) c.m c.cPt)
  p3 : W.cell? ⟨c.bL, 0, none⟩ = some (.slice c.aL c.n c.cL)
  p4 : W.cell? ⟨c.bHr, 0, none⟩ = some (.slice (some ⟨c.HR, 0, none⟩) c.n c.cHr)
  p5 : W.cell? ⟨c.bP, 1, none⟩ = some (.slice c.aF c.nf c.cF)
  p6 : W.cell? ⟨c.bMn, 0, none⟩ = some (.slice c.aMn c.m c.cMn)
  p7 : W.cell? ⟨c.bCh, 0, none⟩ = some (.func (.func 75) #[] c.lb)
  s0 : W.cell? ⟨c.S, 0, none⟩ = some (.slice c.aPart c.m c.cPart)
  s1 : W.cell? ⟨c.S, 1, none⟩ = some (.int .i64 st.cnt)
  s2 : W.cell? ⟨c.S, 2, none⟩ = some (.slice (some ⟨c.EN, 0, none⟩) c.m c.cEn)
  s3 : ∃ v, W.cell? ⟨c.S, 3, none⟩ = some v ∧ kPt.R 49 W c.base c.out v st.one
  sf : ∀ o, W.frozen? ⟨c.S, o, none⟩ = false
  ef : ∀ o, W.frozen? ⟨c.EN, o, none⟩ = false
  en : ∀ j, j < 4 * c.m → ∃ v, W.cell? ⟨c.EN, j, none⟩ = some v ∧ kPt.R 49 W c.base c.out v (st.ends j) ∧ (st.ends j = [] → v = .slice none 0 0)
  hr : kBx.R 42 W c.base (fun k => k = c.HR) (.slice (some ⟨c.HR, 0, none⟩) c.n c.cHr) H
  pt : kPt.R 49 W c.base (fun k => k = c.PT) (.slice (some ⟨c.PT, 0, none⟩) c.m c.cPt) P
  mn : kRows.R 52 W c.base c.out (.slice c.aMn c.m c.cMn) mine
  tS : Ty W c.S 78 4
  tE : Ty W c.EN 105 (c.cEn * 4)

section
variable {c : Cp} {part : List Int} {fs : List Fct} {l : List Bx} {mine : List (List Int)} {w0 W W2 : World} {st st2 : See} {H H2 : List Bx} {P P2 : List Pt}
theorem cell_lt {a : Addr} {v : Value} {W : World} (h : W.cell? a = some v) : a.block < W.heap.size := World.block_lt_of_cell? _ _ h
theorem cell_other {W : World} {a b : Addr} {u v : Value} (hc : W.cell? b = some v) (h : a ≠ b) : (W.setCell a u).cell? b = some v := by
  first
    | exact (World.cell?_setCell_other h).trans hc
    | exact (World.cell?_setCell_other _ h).trans hc
    | exact (World.cell?_setCell_other _ _ h).trans hc
    | exact (World.cell?_setCell_other _ _ _ h).trans hc
    | exact (World.cell?_setCell_other _ _ _ _ h).trans hc
/-- What choose does not write lies as it lay; the rest is given. -/
theorem LK.put (s : LS c part fs l mine w0) (h : LK c mine w0 W st H P) (hk : ∀ k, c.out k → k < W.heap.size → W2.heap[k]? = W.heap[k]?) (hB : Below w0.heap.size w0 W2)
    (s0 : W2.cell? ⟨c.S, 0, none⟩ = some (.slice c.aPart c.m c.cPart)) (s1 : W2.cell? ⟨c.S, 1, none⟩ = some (.int .i64 st2.cnt)) (s2 : W2.cell? ⟨c.S, 2, none⟩ = some (.slice (some ⟨c.EN, 0, none⟩) c.m c.cEn))
    (s3 : ∃ v, W2.cell? ⟨c.S, 3, none⟩ = some v ∧ kPt.R 49 W2 c.base c.out v st2.one)
    (sf : ∀ o, W2.frozen? ⟨c.S, o, none⟩ = false) (ef : ∀ o, W2.frozen? ⟨c.EN, o, none⟩ = false)
    (en : ∀ j, j < 4 * c.m → ∃ v, W2.cell? ⟨c.EN, j, none⟩ = some v ∧ kPt.R 49 W2 c.base c.out v (st2.ends j) ∧ (st2.ends j = [] → v = .slice none 0 0))
    (hr : kBx.R 42 W2 c.base (fun k => k = c.HR) (.slice (some ⟨c.HR, 0, none⟩) c.n c.cHr) H2)
    (pt : kPt.R 49 W2 c.base (fun k => k = c.PT) (.slice (some ⟨c.PT, 0, none⟩) c.m c.cPt) P2)
    (tS : Ty W2 c.S 78 4) (tE : Ty W2 c.EN 105 (c.cEn * 4)) : LK c mine w0 W2 st2 H2 P2 :=
  ⟨hB, (World.cell?_of_block (hk _ s.o0 (cell_lt h.p0))).trans h.p0, (World.cell?_of_block (hk _ s.o1 (cell_lt h.p1))).trans h.p1, (World.cell?_of_block (hk _ s.o2 (cell_lt h.p2))).trans h.p2, (World.cell?_of_block (hk _ s.o3 (cell_lt h.p3))).trans h.p3,
   (World.cell?_of_block (hk _ s.o4 (cell_lt h.p4))).trans h.p4, (World.cell?_of_block (hk _ s.o5 (cell_lt h.p5))).trans h.p5, (World.cell?_of_block (hk _ s.o6 (cell_lt h.p6))).trans h.p6, (World.cell?_of_block (hk _ s.o7 (cell_lt h.p7))).trans h.p7,
   s0, s1, s2, s3, sf, ef, en, hr, pt, Kd.R_step h.mn hk, tS, tE⟩
theorem frozen_of_block {W W2 : World} {b o : Nat} (h : W2.heap[b]? = W.heap[b]?) : W2.frozen? ⟨b, o, none⟩ = W.frozen? ⟨b, o, none⟩ := by simp only [World.frozen?, h]

theorem LK.below (s : LS c part fs l mine w0) (h : LK c mine w0 W st H P) (hb : Below W.heap.size W W2) : LK c mine w0 W2 st H P :=
  h.put s (fun k _ hk => hb.block k hk) (bstep' h.B hb) ((hb.cell (p := ⟨c.S, 0, none⟩) (cell_lt h.s0)).trans h.s0) ((hb.cell (p := ⟨c.S, 1, none⟩) (cell_lt h.s1)).trans h.s1) ((hb.cell (p := ⟨c.S, 2, none⟩) (cell_lt h.s2)).trans h.s2)
    (let ⟨v, h1, h2⟩ := h.s3; ⟨v, (hb.cell (p := ⟨c.S, 3, none⟩) (cell_lt h1)).trans h1, Kd.R_below h2 hb⟩)
    (fun o => (frozen_of_block (hb.block _ (cell_lt h.s0))).trans (h.sf o))
    (fun o => by
      have hlt : c.EN < W.heap.size := by
        have hm := s.m2
        obtain ⟨v, h1, _⟩ := h.en 0 (by omega)
        exact cell_lt h1
      exact (frozen_of_block (hb.block _ hlt)).trans (h.ef o))
    (fun j hj => let ⟨v, h1, h2, h3⟩ := h.en j hj; ⟨v, (hb.cell (p := ⟨c.EN, j, none⟩) (cell_lt h1)).trans h1, Kd.R_below h2 hb, h3⟩)
    (Kd.R_below h.hr hb) (Kd.R_below h.pt hb) (h.tS.block (hb.block _ h.tS.lt)) (h.tE.block (hb.block _ h.tE.lt))

/-- The row of here, or that of point, or the ends, or the record itself has been written. -/
theorem grown_same {q k : Nat} (hg : W.grownBy W2 (some q)) (hk : k < W.heap.size) (hne : k ≠ q) : W2.heap[k]? = W.heap[k]? := hg.block k hk (fun e => hne (by injection e))
theorem below_grown {w0 : World} {q : Nat} (hB : Below w0.heap.size w0 W) (hg : W.grownBy W2 (some q)) (hq : w0.heap.size ≤ q) : Below w0.heap.size w0 W2 :=
  hB.grown hg hB.size (fun k hk => by injection hk with hk; omega)
theorem LK.ltE (s : LS c part fs l mine w0) (h : LK c mine w0 W st H P) : c.EN < W.heap.size := by
  have hm := s.m2
  obtain ⟨v, h1, _⟩ := h.en 0 (by omega)
  exact cell_lt h1
theorem LK.here (s : LS c part fs l mine w0) (h : LK c mine w0 W st H P) (hg : W.grownBy W2 (some c.HR)) (hr2 : kBx.R 42 W2 c.base (fun k => k = c.HR) (.slice (some ⟨c.HR, 0, none⟩) c.n c.cHr) H2) : LK c mine w0 W2 st H2 P :=
  have hS : W2.heap[c.S]? = W.heap[c.S]? := grown_same hg (cell_lt h.s0) s.d2
  have hE : W2.heap[c.EN]? = W.heap[c.EN]? := grown_same hg (h.ltE s) s.d4
  h.put s (fun k ho hk => grown_same hg hk ho.2.2.1) (below_grown h.B hg (by rw [← s.base]; exact s.lH)) ((World.cell?_of_block hS).trans h.s0) ((World.cell?_of_block hS).trans h.s1) ((World.cell?_of_block hS).trans h.s2)
    (let ⟨v, h1, h2⟩ := h.s3; ⟨v, (World.cell?_of_block hS).trans h1, Kd.R_grown h2 hg (fun k ho e => ho.2.2.1 (by injection e))⟩)
    (fun o => (frozen_of_block hS).trans (h.sf o)) (fun o => (frozen_of_block hE).trans (h.ef o))
    (fun j hj => let ⟨v, h1, h2, h3⟩ := h.en j hj; ⟨v, (World.cell?_of_block hE).trans h1, Kd.R_grown h2 hg (fun k ho e => ho.2.2.1 (by injection e)), h3⟩)
    hr2 (Kd.R_grown h.pt hg (fun k ho e => s.d6 (by injection e with e; rw [← e, ho]))) (h.tS.block hS) (h.tE.block hE)
theorem LK.point (s : LS c part fs l mine w0) (h : LK c mine w0 W st H P) (hg : W.grownBy W2 (some c.PT)) (pt2 : kPt.R 49 W2 c.base (fun k => k = c.PT) (.slice (some ⟨c.PT, 0, none⟩) c.m c.cPt) P2) : LK c mine w0 W2 st H P2 :=
  have hS : W2.heap[c.S]? = W.heap[c.S]? := grown_same hg (cell_lt h.s0) s.d3
  have hE : W2.heap[c.EN]? = W.heap[c.EN]? := grown_same hg (h.ltE s) s.d5
  h.put s (fun k ho hk => grown_same hg hk ho.2.2.2) (below_grown h.B hg (by rw [← s.base]; exact s.lP)) ((World.cell?_of_block hS).trans h.s0) ((World.cell?_of_block hS).trans h.s1) ((World.cell?_of_block hS).trans h.s2)
    (let ⟨v, h1, h2⟩ := h.s3; ⟨v, (World.cell?_of_block hS).trans h1, Kd.R_grown h2 hg (fun k ho e => ho.2.2.2 (by injection e))⟩)
    (fun o => (frozen_of_block hS).trans (h.sf o)) (fun o => (frozen_of_block hE).trans (h.ef o))
    (fun j hj => let ⟨v, h1, h2, h3⟩ := h.en j hj; ⟨v, (World.cell?_of_block hE).trans h1, Kd.R_grown h2 hg (fun k ho e => ho.2.2.2 (by injection e)), h3⟩)
    (Kd.R_grown h.hr hg (fun k ho e => s.d6 (by injection e with e; rw [← ho, e]))) pt2 (h.tS.block hS) (h.tE.block hE)

/-- A cell of the record (the count, or some solution). -/
theorem LK.count (s : LS c part fs l mine w0) (h : LK c mine w0 W st H P) (x : Int) : LK c mine w0 (W.setCell ⟨c.S, 1, none⟩ (.int .i64 x)) ⟨x, st.one, st.ends⟩ H P :=
  have hg := grown_set W c.S 1 (.int .i64 x) 
  have hE : (W.setCell ⟨c.S, 1, none⟩ (.int .i64 x)).heap[c.EN]? = W.heap[c.EN]? := grown_same hg (h.ltE s) s.d1.symm
  h.put s (fun k ho hk => grown_same hg hk ho.1) (below_grown h.B hg (by rw [← s.base]; exact s.lS)) (cell_other h.s0 (by simp)) (by exact World.cell?_setCell_same' _ _ _ (by rw [h.s1]; rfl)) (cell_other h.s2 (by simp))
    (let ⟨v, h1, h2⟩ := h.s3; ⟨v, cell_other h1 (by simp), Kd.R_grown h2 hg (fun k ho e => ho.1 (by injection e))⟩)
    (fun o => by rw [World.frozen?_setCell]; exact h.sf o) (fun o => (frozen_of_block hE).trans (h.ef o))
    (fun j hj => let ⟨v, h1, h2, h3⟩ := h.en j hj; ⟨v, (World.cell?_of_block hE).trans h1, Kd.R_grown h2 hg (fun k ho e => ho.1 (by injection e)), h3⟩)
    (Kd.R_grown h.hr hg (fun k ho e => s.d2 (by injection e with e; rw [← ho, e]))) (Kd.R_grown h.pt hg (fun k ho e => s.d3 (by injection e with e; rw [← ho, e]))) h.tS.set (h.tE.block hE)
theorem LK.some_ (s : LS c part fs l mine w0) (h : LK c mine w0 W st H P) {v : Value} {x : List Pt} (hx : kPt.R 49 W c.base c.out v x) : LK c mine w0 (W.setCell ⟨c.S, 3, none⟩ v) ⟨st.cnt, x, st.ends⟩ H P :=
  have hg := grown_set W c.S 3 v
  have hE : (W.setCell ⟨c.S, 3, none⟩ v).heap[c.EN]? = W.heap[c.EN]? := grown_same hg (h.ltE s) s.d1.symm
  h.put s (fun k ho hk => grown_same hg hk ho.1) (below_grown h.B hg (by rw [← s.base]; exact s.lS)) (cell_other h.s0 (by simp)) (cell_other h.s1 (by simp)) (cell_other h.s2 (by simp))
    ⟨v, World.cell?_setCell_same' _ _ _ (by obtain ⟨u, hu, _⟩ := h.s3; rw [hu]; rfl), Kd.R_grown hx hg (fun k ho e => ho.1 (by injection e))⟩
    (fun o => by rw [World.frozen?_setCell]; exact h.sf o) (fun o => (frozen_of_block hE).trans (h.ef o))
    (fun j hj => let ⟨v, h1, h2, h3⟩ := h.en j hj; ⟨v, (World.cell?_of_block hE).trans h1, Kd.R_grown h2 hg (fun k ho e => ho.1 (by injection e)), h3⟩)
    (Kd.R_grown h.hr hg (fun k ho e => s.d2 (by injection e with e; rw [← ho, e]))) (Kd.R_grown h.pt hg (fun k ho e => s.d3 (by injection e with e; rw [← ho, e]))) h.tS.set (h.tE.block hE)
theorem LK.end_ (s : LS c part fs l mine w0) (h : LK c mine w0 W st H P) {v : Value} {x : List Pt} (J : Nat) (hJ : J < 4 * c.m) (hx : kPt.R 49 W c.base c.out v x) (hx0 : x = [] → v = .slice none 0 0) : LK c mine w0 (W.setCell ⟨c.EN, J, none⟩ v) ⟨st.cnt, st.one, fun j => if j = J then x else st.ends j⟩ H P :=
  have hg := grown_set W c.EN J v
  have hS : (W.setCell ⟨c.EN, J, none⟩ v).heap[c.S]? = W.heap[c.S]? := grown_same hg (cell_lt h.s0) s.d1
  h.put s (fun k ho hk => grown_same hg hk ho.2.1) (below_grown h.B hg (by rw [← s.base]; exact s.lE)) ((World.cell?_of_block hS).trans h.s0) ((World.cell?_of_block hS).trans h.s1) ((World.cell?_of_block hS).trans h.s2)
    (let ⟨v, h1, h2⟩ := h.s3; ⟨v, (World.cell?_of_block hS).trans h1, Kd.R_grown h2 hg (fun k ho e => ho.2.1 (by injection e))⟩)
    (fun o => (frozen_of_block hS).trans (h.sf o)) (fun o => by rw [World.frozen?_setCell]; exact h.ef o)
    (fun j hj => by
      obtain ⟨u, h1, h2, h3⟩ := h.en j hj
      by_cases e : j = J
      · subst e
        exact ⟨v, World.cell?_setCell_same' _ _ _ (by rw [h1]; rfl), by simpa using Kd.R_grown hx hg (fun k ho e => ho.2.1 (by injection e)), by simpa using hx0⟩
      · exact ⟨u, cell_other h1 (by intro h; injection h with _ h _; exact e h.symm), by simpa [e] using Kd.R_grown h2 hg (fun k ho e => ho.2.1 (by injection e)), by simpa [e] using h3⟩)
    (Kd.R_grown h.hr hg (fun k ho e => s.d4 (by injection e with e; rw [← ho, e]))) (Kd.R_grown h.pt hg (fun k ho e => s.d5 (by injection e with e; rw [← ho, e]))) (h.tS.block hS) h.tE.set
theorem LK.ltS (h : LK c mine w0 W st H P) : c.S < W.heap.size := cell_lt h.s0
theorem LK.ltH (s : LS c part fs l mine w0) (h : LK c mine w0 W st H P) : c.HR < W.heap.size := (R_own1 h.hr s.n1).2.2
theorem LK.ltP (s : LS c part fs l mine w0) (h : LK c mine w0 W st H P) : c.PT < W.heap.size := (R_own1 h.pt (by have := s.m2; omega)).2.2
theorem LK.ge_out (s : LS c part fs l mine w0) (h : LK c mine w0 W st H P) {k : Nat} (hk : W.heap.size ≤ k) : c.out k := by
  have h1 := h.ltS
  have h2 := h.ltE s
  have h3 := h.ltH s
  have h4 := h.ltP s
  exact ⟨by omega, by omega, by omega, by omega⟩
/-- What has been made since is no block that choose writes. -/
theorem LK.fresh (s : LS c part fs l mine w0) (h : LK c mine w0 W st H P) {α : Type} {d : Kd α} {e n1 : Nat} {v : Value} {x : List α} (hn : W.heap.size ≤ n1) (hx : d.R e W2 n1 (fun _ => True) v x) : d.R e W2 c.base c.out v x :=
  Kd.R_lower (Kd.R_mono (Kd.R_bound hx) (fun k hk => h.ge_out s (Nat.le_trans hn hk.2.1))) (by rw [s.base]; exact Nat.le_trans h.B.size hn)
end
end Go.Proofs.Ytkkimlicabbooaa

/-
  look of package search: the closure choose, where all is chosen.
-/
namespace Go.Proofs.Ytkkimlicabbooaa
open Go.RowKit Go.Proofs.YtkkimlicabbooaaW.PrintWords Bs
attribute [local go_sem] Later.cell? Later.frozen?
set_option linter.unusedVariables false
set_option linter.unusedSimpArgs false

/-- What choose does not write lies as it lay. -/
def KO (c : Cp) (W W' : World) : Prop := W.heap.size ≤ W'.heap.size ∧ ∀ k, c.out k → k < W.heap.size → W'.heap[k]? = W.heap[k]?
theorem KO.refl (c : Cp) (W : World) : KO c W W := ⟨Nat.le_refl _, fun _ _ _ => rfl⟩
theorem KO.trans {c : Cp} {A B C : World} (h : KO c A B) (k : KO c B C) : KO c A C := ⟨Nat.le_trans h.1 k.1, fun i ho hi => (k.2 i ho (Nat.lt_of_lt_of_le hi h.1)).trans (h.2 i ho hi)⟩
theorem KO.below {c : Cp} {A B : World} (h : Below A.heap.size A B) : KO c A B := ⟨h.size, fun i _ hi => h.block i hi⟩
theorem KO.grown {c : Cp} {A B : World} {q : Nat} (h : A.grownBy B (some q)) (hq : ¬ c.out q) : KO c A B := ⟨h.size, fun i ho hi => h.block i hi (fun e => hq (by injection e with e; rw [← e]; exact ho))⟩

theorem row_C {α : Type} {d : Kd α} {e base n : Nat} {ok : Nat → Prop} {W : World} {A : Option Addr} {cap : Nat} {xs : List α} (h : d.R e W base ok (.slice A n cap) xs) : xs.length = n ∧ d.C W A n xs := by
  obtain ⟨A', c', e1, _, hC⟩ := Kd.R_reads h
  injection e1 with a b _
  subst a b
  exact ⟨rfl, hC⟩

theorem endP_at (pt old : List Pt) (i n : Nat) (hn : n < 4) : endP pt (4 * i + n) old = if old = [] then pt else if keyP (rPt pt (i : Int)) n < keyP (rPt old (i : Int)) n then pt else old := by
  unfold endP
  rw [show (4 * i + n) / 4 = i by omega, show (4 * i + n) % 4 = n by omega]

theorem LK.ends_congr {c : Cp} {mine : List (List Int)} {w0 W : World} {st : See} {H : List Bx} {P : List Pt} (h : LK c mine w0 W st H P) {E : Nat → List Pt} (hE : ∀ j, j < 4 * c.m → E j = st.ends j) : LK c mine w0 W ⟨st.cnt, st.one, E⟩ H P :=
  ⟨h.B, h.p0, h.p1, h.p2, h.p3, h.p4, h.p5, h.p6, h.p7, h.s0, h.s1, h.s2, h.s3, h.sf, h.ef, fun j hj => by
    obtain ⟨v, h1, h2, h3⟩ := h.en j hj
    exact ⟨v, h1, by dsimp only; rw [hE j hj]; exact h2, by dsimp only; rw [hE j hj]; exact h3⟩, h.hr, h.pt, h.mn, h.tS, h.tE⟩

def ChoosePost (c : Cp) (mine : List (List Int)) (w0 W : World) (st : See) (H : List Bx) (k : Nat) (pre : List Pt) (e : Ending) (W' : World) : Prop :=
  e = .returned (.tuple #[]) ∧ KO c W W' ∧ ∃ P', P'.take k = pre ∧ LK c mine w0 W' st H P'

set_option maxHeartbeats 3200000 in
set_option maxRecDepth 100000 in
theorem choose_end (c : Cp) (part : List Int) (fs : List Fct) (l : List Bx) (mine : List (List Int)) (w0 W : World) (st : See) (H : List Bx) (P : List Pt) (s : LS c part fs l mine w0) (h : LK c mine w0 W st H P)
    (hc0 : 0 ≤ st.cnt) (hc1 : st.cnt < 9000000000000000000) (hP : ∀ p ∈ P, inB p ⟨⟨-1048576, 1048576⟩, ⟨-1048576, 1048576⟩⟩) (hE : ∀ j, j < 4 * c.m → st.ends j = [] ∨ (st.ends j).length = c.m ∧ ∀ p ∈ st.ends j, inB p ⟨⟨-1048576, 1048576⟩, ⟨-1048576, 1048576⟩⟩) :
    Calls Try.prog 75 #[.int .i64 c.m, .pointer (some ⟨c.bPart, 0, none⟩), .pointer (some ⟨c.bS, 0, none⟩), .pointer (some ⟨c.bPt, 0, none⟩), .pointer (some ⟨c.bL, 0, none⟩), .pointer (some ⟨c.bHr, 0, none⟩), .pointer (some ⟨c.bP, 0, none⟩), .pointer (some ⟨c.bMn, 0, none⟩), .pointer (some ⟨c.bCh, 0, none⟩)] W
      (ChoosePost c mine w0 W (seeP st P) H c.m P) := by
  have heq := fun (w : World) (A : Option Addr) (n c : Nat) => Lib.run_eql_slice_nil (P := Try.prog) w 57 49 A n c 0 0 Try.underlying57
  have HS := Aside0.mk s
  have HK := Aside0.mk h
  have HE := Aside0.mk hE
  have HP := Aside0.mk hP
  clear s h hE hP
  have p0 := HK.out.p0
  have p1 := HK.out.p1
  have p2 := HK.out.p2
  have s1 := HK.out.s1
  have sf := HK.out.sf 1
  have l0 := cell_lt p0
  have l1 := cell_lt p1
  have l2 := cell_lt p2
  have l3 := cell_lt s1
  dsimp only at l0 l1 l2 l3
  have m12 := HS.out.m12
  have m2 := HS.out.m2
  go_enter Try.func75, Try.ntmps75
  have HK3 := Aside0.mk ((LK.count HS.out HK.out (st.cnt + 1)).below HS.out (show Below (W.setCell ⟨c.S, 1, none⟩ (.int .i64 (st.cnt + 1))).heap.size _ ((W.setCell ⟨c.S, 1, none⟩ (.int .i64 (st.cnt + 1))).alloc (.cells #[.int .i64 c.m] 3)) from below_alloc (Below.refl _ _) _))
  have HO3 := Aside0.mk ((KO.grown (grown_set W c.S 1 (.int .i64 (st.cnt + 1))) (fun h => h.1 rfl)).trans (KO.below (c := c) (show Below (W.setCell ⟨c.S, 1, none⟩ (.int .i64 (st.cnt + 1))).heap.size _ ((W.setCell ⟨c.S, 1, none⟩ (.int .i64 (st.cnt + 1))).alloc (.cells #[.int .i64 c.m] 3)) from below_alloc (Below.refl _ _) _)))
  by_cases hcc : st.cnt + 1 = 1
  case' pos =>
    have hcc1 : (st.cnt + 1 == 1) = true := beq_iff_eq.2 hcc
    have HC := Aside0.mk hcc
    clear hcc
    go_wp2_with fail
    generalize hW3 : (W.setCell ⟨c.S, 1, none⟩ (.int .i64 (st.cnt + 1))).alloc (.cells #[.int .i64 c.m] 3) = W3 at *
    clear hW3 p0 p1 p2 s1 sf l0 l1 l2 l3
    have p1 := HK3.out.p1
    have p2 := HK3.out.p2
    have s3 := HK3.out.s3
    have sf := HK3.out.sf 3
    have l1 := cell_lt p1
    have l2 := cell_lt p2
    have o1 := HS.out.o1.1
    have o2 := HS.out.o2.1
    dsimp only at l1 l2
    go_region_held3 (fun w' => (∀ b o, b < W3.heap.size → b ≠ c.S → w'.cell? ⟨b, o, none⟩ = W3.cell? ⟨b, o, none⟩) ∧ W3.heap.size ≤ w'.heap.size) (first | exact ⟨fun _ _ _ _ => rfl, Nat.le_refl _⟩ | exact ⟨fun b o hl _ => hb7.cell (p := ⟨b, o, none⟩) hl, hb7.size⟩ | exact ⟨fun b o hl hne => (World.cell?_of_block (Below.heap_setCell _ _ _ b hne)).trans (hb7.cell (p := ⟨b, o, none⟩) hl), by simpa using hb7.size⟩) ((first | (go_at_call 76; refine (clonePt_c _ c.m _ P _ (Kd.C_below (row_C HK3.out.pt).2 (by repeat (first | (with_reducible exact Below.refl _ _) | (with_reducible exact HB.out) | (with_reducible assumption) | (with_reducible apply below_alloc) | (with_reducible apply below_drew) | (with_reducible apply pw_below_drewN) | (with_reducible refine bstep' ?_ (by assumption)) | ((with_reducible refine Below.setCell ?_ ?_ _); rotate_left; (first | (dsimp only; omega) | (simp; done) | (simp; omega) | omega))))) (by omega)).mono ?_; rintro e w7 ⟨v7, rfl, hv7, hb7⟩; have HK7 := Aside0.mk (LK.below HS.out HK3.out (W2 := w7) (by repeat (first | (with_reducible exact Below.refl _ _) | (with_reducible exact HB.out) | (with_reducible assumption) | (with_reducible apply below_alloc) | (with_reducible apply below_drew) | (with_reducible apply pw_below_drewN) | (with_reducible refine bstep' ?_ (by assumption)) | ((with_reducible refine Below.setCell ?_ ?_ _); rotate_left; (first | (dsimp only; omega) | (simp; done) | (simp; omega) | omega))))); have f7 := HK7.out.sf 3; obtain ⟨u7, hu7, _⟩ := HK7.out.s3; have HV7 := Aside0.mk hv7; obtain ⟨A7, c7, rfl⟩ := Kd.R_slice hv7; clear hv7)))
    have HK8 := Aside0.mk (LK.some_ HS.out HK7.out (LK.fresh HS.out HK3.out (by simp) HV7.out))
    have HO8 := Aside0.mk ((HO3.out.trans (KO.below (show Below W3.heap.size W3 w7 from (by repeat (first | (with_reducible exact Below.refl _ _) | (with_reducible exact HB.out) | (with_reducible assumption) | (with_reducible apply below_alloc) | (with_reducible apply below_drew) | (with_reducible apply pw_below_drewN) | (with_reducible refine bstep' ?_ (by assumption)) | ((with_reducible refine Below.setCell ?_ ?_ _); rotate_left; (first | (dsimp only; omega) | (simp; done) | (simp; omega) | omega))))))).trans (KO.grown (grown_set w7 c.S 3 (.slice A7 P.length c7)) (fun h => h.1 rfl)))
    (try dsimp only at HK8)
    rw [show (⟨st.cnt + 1, P, st.ends⟩ : See) = ⟨st.cnt + 1, if st.cnt + 1 = 1 then P else st.one, mixE P st.ends 0⟩ by rw [if_pos HC.out, mixE_zero]] at HK8
    generalize hW5 : w7.setCell ⟨c.S, 3, none⟩ (.slice A7 P.length c7) = W5 at *
    clear hW5 HK7 HK3 HV7 hu7 f7 hb7 p1 p2 s3 sf l1 l2 o1 o2 HK HO3 hcc1 HC
    have p2 := HK8.out.p2
    go_wp2_with fail
    clear p2
  case' neg =>
    have hcc1 : (st.cnt + 1 == 1) = false := beq_eq_false_iff_ne.2 hcc
    have HC := Aside0.mk hcc
    clear hcc
    rw [show (⟨st.cnt + 1, st.one, st.ends⟩ : See) = ⟨st.cnt + 1, if st.cnt + 1 = 1 then P else st.one, mixE P st.ends 0⟩ by rw [if_neg HC.out, mixE_zero]] at HK3
    have HK8 := HK3
    have HO8 := HO3
    clear HK3 HO3
    go_wp2_with fail
    generalize hW5 : (W.setCell ⟨c.S, 1, none⟩ (.int .i64 (st.cnt + 1))).alloc (.cells #[.int .i64 c.m] 3) = W5 at *
    clear hW5 p0 p1 p2 s1 sf l0 l1 l2 l3 HK hcc1 HC
  all_goals
    generalize hone : (if st.cnt + 1 = 1 then P else st.one) = one at *
    have HONE := Aside0.mk hone
    clear hone
    go_loopg [38] c.m (fun g cnt wr => ∃ i : Nat, i + g = c.m ∧ cnt = .int .i64 i ∧ Aside0 (LK c mine w0 wr ⟨st.cnt + 1, one, mixE P st.ends (4 * i)⟩ H P) ∧ Aside0 (KO c W wr))
    case atStart => exact ⟨0, by omega, rfl, HK8, HO8⟩
    case round =>
      clear HK8 HO8
      obtain ⟨i, hi, rfl, HK9, HO9⟩ := hrel
      by_cases hlt : i < c.m
      · obtain ⟨_, _, he, hPlt, x0, x1⟩ := at_Pt (row_C HK9.out.pt).2 (i : Int) (by omega) (by omega)
        cases he
        simp only [Int.toNat_natCast, Nat.zero_add] at x0 x1
        go_wp2_with fail
        obtain ⟨w10, hw10⟩ : ∃ u, u = wr.alloc (.cells #[.int .i64 (rPt P (i : Int)).x, .int .i64 (rPt P (i : Int)).y] 49) := ⟨_, rfl⟩
        have HB10 := Aside0.mk (show Below wr.heap.size wr w10 by rw [hw10]; exact (by repeat (first | (with_reducible exact Below.refl _ _) | (with_reducible exact HB.out) | (with_reducible assumption) | (with_reducible apply below_alloc) | (with_reducible apply below_drew) | (with_reducible apply pw_below_drewN) | (with_reducible refine bstep' ?_ (by assumption)) | ((with_reducible refine Below.setCell ?_ ?_ _); rotate_left; (first | (dsimp only; omega) | (simp; done) | (simp; omega) | omega)))))
        have HK10 := Aside0.mk (HK9.out.below HS.out HB10.out)
        have HO10 := Aside0.mk (HO9.out.trans (KO.below (c := c) HB10.out))
        have hxo := Aside0.mk (HK9.out.ge_out HS.out (Nat.le_refl wr.heap.size))
        have hxl : wr.heap.size < w10.heap.size := by rw [hw10]; simp
        have y0 : w10.cell? ⟨wr.heap.size, 0, none⟩ = some (.int .i64 (rPt P (i : Int)).x) := by rw [hw10]; go_simp
        have y1 : w10.cell? ⟨wr.heap.size, 1, none⟩ = some (.int .i64 (rPt P (i : Int)).y) := by rw [hw10]; go_simp
        obtain ⟨xb, hxb⟩ : ∃ u, u = wr.heap.size := ⟨_, rfl⟩
        rw [← hw10]
        rw [← hxb] at hxo hxl y0 y1 ⊢
        obtain ⟨g1, rfl⟩ : ∃ u, u = gk := ⟨_, rfl⟩
        obtain ⟨w9, rfl⟩ : ∃ u, u = wr := ⟨_, rfl⟩
        clear HK9 HO9 x0 x1 hw10 HB10 hxb hPlt
        go_loopg [43] 4 (fun g cnt wr => ∃ n : Nat, n + g = 4 ∧ cnt = .int .i64 n ∧ Aside0 (LK c mine w0 wr ⟨st.cnt + 1, one, mixE P st.ends (4 * i + n)⟩ H P) ∧ Aside0 (KO c w10 wr))
        case atStart => exact ⟨0, by omega, rfl, HK10, ⟨KO.refl _ _⟩⟩
        case round =>
          clear HK10
          obtain ⟨n, hn, rfl, HK, HO⟩ := hrel
          by_cases hlt2 : n < 4
          · have z0 := (World.cell?_of_block (a := ⟨xb, 0, none⟩) (HO.out.2 xb hxo.out hxl)).trans y0
            have z1 := (World.cell?_of_block (a := ⟨xb, 1, none⟩) (HO.out.2 xb hxo.out hxl)).trans y1
            have hxl2 : xb < wr.heap.size := cell_lt z0
            have p1 := HK.out.p1
            have s2 := HK.out.s2
            obtain ⟨v, e0, hR, hnil⟩ := HK.out.en (4 * i + n) (by omega)
            rw [Nat.mul_comm 4 i] at e0
            (try dsimp only at hR hnil)
            rw [mixE_at] at hR hnil
            have HEP := Aside0.mk (endP_at P (st.ends (4 * i + n)) i n hlt2)
            have HMS := Aside0.mk (mixE_succ P st.ends (4 * i + n))
            have HEj := HE.out (4 * i + n) (by omega)
            have HEJ := Aside0.mk (mixE_at P st.ends (4 * i + n))
            generalize st.ends (4 * i + n) = E at hR hnil HEj HEP HMS HEJ
            have HR := Aside0.mk hR
            by_cases hE0 : E = []
            · rw [if_pos hE0] at HEP
              obtain rfl := hnil hE0
              clear hnil hR HEj
              have HE0 := Aside0.mk hE0
              clear hE0
              go_wp2_with fail
              (refine wp_region_quiet (C := fun w' => ∃ t : Later _, w' = t.w) (by kernel_rfl) (by kernel_rfl) (IsLater.drew _) ?_; (repeat (first | go_big_quiet_step (fail) | quiet_step (fail))); refine wpQuiet_nil ?_; rintro _ ⟨tq, rfl⟩)
              have hq := tq.h
              have HPl := Aside0.mk (row_C HK.out.pt).1
              have HK3 := Aside0.mk (HK.out.below HS.out hq)
              have HO3 := Aside0.mk (HO.out.trans (KO.below hq))
              have p1 := HK3.out.p1
              have p2 := HK3.out.p2
              have s2 := HK3.out.s2
              have l1 := cell_lt p1
              have l2 := cell_lt p2
              have l3 := cell_lt s2
              have d1 := HS.out.o1.2.1
              have d2 := HS.out.o2.2.1
              have d3 := HS.out.d1
              dsimp only at l1 l2 l3
              go_wp2_with fail
              go_region_held3 (fun w' => (∀ b o, b < tq.w.heap.size → b ≠ c.EN → w'.cell? ⟨b, o, none⟩ = tq.w.cell? ⟨b, o, none⟩) ∧ tq.w.heap.size ≤ w'.heap.size) (first | exact ⟨fun _ _ _ _ => rfl, Nat.le_refl _⟩ | exact ⟨fun b o hl _ => hb7.cell (p := ⟨b, o, none⟩) hl, hb7.size⟩ | exact ⟨fun b o hl hne => (World.cell?_of_block (Below.heap_setCell _ _ _ b hne)).trans (hb7.cell (p := ⟨b, o, none⟩) hl), by simpa using hb7.size⟩) ((first | (go_at_call 76; refine (clonePt_c _ c.m _ P _ (Kd.C_below (row_C HK3.out.pt).2 (by repeat (first | (with_reducible exact Below.refl _ _) | (with_reducible exact HB.out) | (with_reducible assumption) | (with_reducible apply below_alloc) | (with_reducible apply below_drew) | (with_reducible apply pw_below_drewN) | (with_reducible refine bstep' ?_ (by assumption)) | ((with_reducible refine Below.setCell ?_ ?_ _); rotate_left; (first | (dsimp only; omega) | (simp; done) | (simp; omega) | omega))))) (by omega)).mono ?_; rintro e w7 ⟨v7, rfl, hv7, hb7⟩; have HK7 := Aside0.mk (LK.below HS.out HK3.out (W2 := w7) (by repeat (first | (with_reducible exact Below.refl _ _) | (with_reducible exact HB.out) | (with_reducible assumption) | (with_reducible apply below_alloc) | (with_reducible apply below_drew) | (with_reducible apply pw_below_drewN) | (with_reducible refine bstep' ?_ (by assumption)) | ((with_reducible refine Below.setCell ?_ ?_ _); rotate_left; (first | (dsimp only; omega) | (simp; done) | (simp; omega) | omega))))); have f7 := HK7.out.ef (i * 4 + n); obtain ⟨u7, hu7, _⟩ := HK7.out.en (i * 4 + n) (by omega); have HV7 := Aside0.mk hv7; obtain ⟨A7, c7, rfl⟩ := Kd.R_slice hv7; clear hv7)))
              have HK8 := Aside0.mk (LK.end_ HS.out HK7.out (i * 4 + n) (by omega) (LK.fresh HS.out HK3.out (by simp) HV7.out) (fun h => by have hPl := HPl.out; rw [h] at hPl; simp at hPl; omega))
              have HO8 := Aside0.mk ((HO3.out.trans (KO.below (show Below tq.w.heap.size tq.w w7 from (by repeat (first | (with_reducible exact Below.refl _ _) | (with_reducible exact HB.out) | (with_reducible assumption) | (with_reducible apply below_alloc) | (with_reducible apply below_drew) | (with_reducible apply pw_below_drewN) | (with_reducible refine bstep' ?_ (by assumption)) | ((with_reducible refine Below.setCell ?_ ?_ _); rotate_left; (first | (dsimp only; omega) | (simp; done) | (simp; omega) | omega))))))).trans (KO.grown (grown_set w7 c.EN (i * 4 + n) (.slice A7 P.length c7)) (fun h => h.2.1 rfl)))
              go_wp2_with fail
              go_roundg (gk - 1)
              case measure => omega
              case rel => exact ⟨n + 1, by omega, by go_num, ⟨by have h5 := HK8.out; (try dsimp only at h5); rwa [show (fun j => if j = i * 4 + n then P else mixE P st.ends (4 * i + n) j) = mixE P st.ends (4 * i + (n + 1)) by rw [← Nat.add_assoc, HMS.out, HEP.out, Nat.mul_comm i 4]] at h5⟩, ⟨HO8.out⟩⟩
            · rw [if_neg hE0] at HEP
              obtain ⟨hEl, hEb⟩ := HEj.resolve_left hE0
              have HEb := Aside0.mk hEb
              obtain ⟨q, cq, rfl, _, hql, _⟩ := Kd.R_form hR (by omega)
              rw [hEl] at hR
              obtain ⟨_, _, he, hql2, o0, o1⟩ := at_Pt (row_C hR).2 (i : Int) (by omega) (by omega)
              cases he
              simp only [Int.toNat_natCast, Nat.zero_add] at o0 o1
              clear hnil hR hEb
              have hPx := HP.out (rPt P (i : Int)) (by rw [rPt_nat]; exact mem_get (by have := (row_C HK.out.pt).1; omega))
              have hEx := HEb.out (rPt E (i : Int)) (by rw [rPt_nat]; exact mem_get (by omega))
              obtain ⟨a1, a2, a3, a4⟩ := hPx
              obtain ⟨b1, b2, b3, b4⟩ := hEx
              have HPl := Aside0.mk (row_C HK.out.pt).1
              dsimp only at a1 a2 a3 a4 b1 b2 b3 b4
              go_wp2_with fail
              by_cases hkk : keyP (rPt P (i : Int)) n < keyP (rPt E (i : Int)) n
              · rw [if_pos hkk] at HEP
                (refine wp_region_quiet (C := fun w' => ∃ t : Later _, w' = t.w) (by kernel_rfl) (by kernel_rfl) (IsLater.drew _) ?_; (repeat (first | go_big_quiet_step ((go_at_call 77; exact later_of (key_c _ n _ hlt2 (by omega) (by omega) (by omega) (by omega)))) | quiet_step ((go_at_call 77; exact later_of (key_c _ n _ hlt2 (by omega) (by omega) (by omega) (by omega)))))); refine wpQuiet_nil ?_; rintro _ ⟨tq, rfl⟩)
                have hq := tq.h
                clear hkk
                have HK3 := Aside0.mk (HK.out.below HS.out hq)
                have HO3 := Aside0.mk (HO.out.trans (KO.below hq))
                have p1 := HK3.out.p1
                have p2 := HK3.out.p2
                have s2 := HK3.out.s2
                have l1 := cell_lt p1
                have l2 := cell_lt p2
                have l3 := cell_lt s2
                have d1 := HS.out.o1.2.1
                have d2 := HS.out.o2.2.1
                have d3 := HS.out.d1
                dsimp only at l1 l2 l3
                go_wp2_with fail
                go_region_held3 (fun w' => (∀ b o, b < tq.w.heap.size → b ≠ c.EN → w'.cell? ⟨b, o, none⟩ = tq.w.cell? ⟨b, o, none⟩) ∧ tq.w.heap.size ≤ w'.heap.size) (first | exact ⟨fun _ _ _ _ => rfl, Nat.le_refl _⟩ | exact ⟨fun b o hl _ => hb7.cell (p := ⟨b, o, none⟩) hl, hb7.size⟩ | exact ⟨fun b o hl hne => (World.cell?_of_block (Below.heap_setCell _ _ _ b hne)).trans (hb7.cell (p := ⟨b, o, none⟩) hl), by simpa using hb7.size⟩) ((first | (go_at_call 76; refine (clonePt_c _ c.m _ P _ (Kd.C_below (row_C HK3.out.pt).2 (by repeat (first | (with_reducible exact Below.refl _ _) | (with_reducible exact HB.out) | (with_reducible assumption) | (with_reducible apply below_alloc) | (with_reducible apply below_drew) | (with_reducible apply pw_below_drewN) | (with_reducible refine bstep' ?_ (by assumption)) | ((with_reducible refine Below.setCell ?_ ?_ _); rotate_left; (first | (dsimp only; omega) | (simp; done) | (simp; omega) | omega))))) (by omega)).mono ?_; rintro e w7 ⟨v7, rfl, hv7, hb7⟩; have HK7 := Aside0.mk (LK.below HS.out HK3.out (W2 := w7) (by repeat (first | (with_reducible exact Below.refl _ _) | (with_reducible exact HB.out) | (with_reducible assumption) | (with_reducible apply below_alloc) | (with_reducible apply below_drew) | (with_reducible apply pw_below_drewN) | (with_reducible refine bstep' ?_ (by assumption)) | ((with_reducible refine Below.setCell ?_ ?_ _); rotate_left; (first | (dsimp only; omega) | (simp; done) | (simp; omega) | omega))))); have f7 := HK7.out.ef (i * 4 + n); obtain ⟨u7, hu7, _⟩ := HK7.out.en (i * 4 + n) (by omega); have HV7 := Aside0.mk hv7; obtain ⟨A7, c7, rfl⟩ := Kd.R_slice hv7; clear hv7)))
                have HK8 := Aside0.mk (LK.end_ HS.out HK7.out (i * 4 + n) (by omega) (LK.fresh HS.out HK3.out (by simp) HV7.out) (fun h => by have hPl := HPl.out; rw [h] at hPl; simp at hPl; omega))
                have HO8 := Aside0.mk ((HO3.out.trans (KO.below (show Below tq.w.heap.size tq.w w7 from (by repeat (first | (with_reducible exact Below.refl _ _) | (with_reducible exact HB.out) | (with_reducible assumption) | (with_reducible apply below_alloc) | (with_reducible apply below_drew) | (with_reducible apply pw_below_drewN) | (with_reducible refine bstep' ?_ (by assumption)) | ((with_reducible refine Below.setCell ?_ ?_ _); rotate_left; (first | (dsimp only; omega) | (simp; done) | (simp; omega) | omega))))))).trans (KO.grown (grown_set w7 c.EN (i * 4 + n) (.slice A7 P.length c7)) (fun h => h.2.1 rfl)))
                go_wp2_with fail
                go_roundg (gk - 1)
                case measure => omega
                case rel => exact ⟨n + 1, by omega, by go_num, ⟨by have h5 := HK8.out; (try dsimp only at h5); rwa [show (fun j => if j = i * 4 + n then P else mixE P st.ends (4 * i + n) j) = mixE P st.ends (4 * i + (n + 1)) by rw [← Nat.add_assoc, HMS.out, HEP.out, Nat.mul_comm i 4]] at h5⟩, ⟨HO8.out⟩⟩
              · rw [if_neg hkk] at HEP
                have hkd : decide (keyP (rPt P (i : Int)) n < keyP (rPt E (i : Int)) n) = false := by simp; omega
                have hkd2 : keyP (rPt E (i : Int)) n ≤ keyP (rPt P (i : Int)) n := by omega
                clear hkk
                (refine wp_region_quiet (C := fun w' => ∃ t : Later _, w' = t.w) (by kernel_rfl) (by kernel_rfl) (IsLater.drew _) ?_; (repeat (first | go_big_quiet_step ((go_at_call 77; exact later_of (key_c _ n _ hlt2 (by omega) (by omega) (by omega) (by omega)))) | quiet_step ((go_at_call 77; exact later_of (key_c _ n _ hlt2 (by omega) (by omega) (by omega) (by omega)))))); refine wpQuiet_nil ?_; rintro _ ⟨tq, rfl⟩)
                have hq := tq.h
                have HK3 := Aside0.mk (HK.out.below HS.out hq)
                have HO3 := Aside0.mk (HO.out.trans (KO.below hq))
                go_wp2_with fail
                go_roundg (gk - 1)
                case measure => omega
                case rel => exact ⟨n + 1, by omega, by go_num, ⟨by have h5 := HK3.out; rwa [show mixE P st.ends (4 * i + n) = mixE P st.ends (4 * i + (n + 1)) by
                  rw [← Nat.add_assoc, HMS.out, HEP.out]
                  funext j
                  by_cases hj : j = 4 * i + n
                  · rw [if_pos hj, hj, HEJ.out]
                  · rw [if_neg hj]] at h5⟩, HO3⟩
          · obtain rfl : gk = 0 := by omega
            obtain rfl : n = 4 := by omega
            go_wp2_with fail
            go_roundg (g1 - 1)
            case measure => omega
            case rel => exact ⟨i + 1, by omega, by go_num, by rw [Nat.mul_succ]; exact HK, ⟨HO10.out.trans HO.out⟩⟩
      · obtain rfl : gk = 0 := by omega
        obtain rfl : i = c.m := by omega
        go_wp2_with fail
        refine bodyPost_ret (results_none rfl _ _ _) rfl ?_
        refine ⟨rfl, HO9.out, P, List.take_of_length_le (by rw [(row_C HK9.out.pt).1]; exact Nat.le_refl _), ?_⟩
        have h5 := LK.ends_congr HK9.out (E := fun j => endP P j (st.ends j)) (fun j hj => by simp [mixE, hj])
        rw [← HONE.out] at h5
        exact h5

end Go.Proofs.Ytkkimlicabbooaa

/-
  look of package search: the closure choose, lemmas for its recursion.
-/
namespace Go.Proofs.Ytkkimlicabbooaa
open Go.RowKit Go.Proofs.YtkkimlicabbooaaW.PrintWords Bs
attribute [local go_sem] Later.cell? Later.frozen?
attribute [local go_sem] Oper.semAt_some
set_option linter.unusedVariables false
set_option linter.unusedSimpArgs false

section
variable {c : Cp} {part : List Int} {fs : List Fct} {l : List Bx} {mine : List (List Int)} {w0 W W2 : World} {st st2 : See} {H H2 : List Bx} {P P2 : List Pt} {row : Option Nat}
def NotCells (W : World) (row : Option Nat) : Prop := ∀ r, row = some r → ∃ o : Obj, W.heap[r]? = some o ∧ o.isCells = false
theorem R_other {α : Type} {d : Kd α} {e base : Nat} {ok : Nat → Prop} {v : Value} {xs : List α} (h : d.R e W base ok v xs) (hg : W.grownBy W2 row) (hr : NotCells W row) : d.R e W2 base ok v xs :=
  Kd.R_mono (Kd.R_grown (Kd.R_bound h) hg (fun k hk e => by
    obtain ⟨_, _, _, q, _, cells, hc⟩ := hk
    obtain ⟨o, ho, hcc⟩ := hr k e.symm
    rw [hc] at ho
    cases ho
    cases hcc)) (fun _ hk => hk.1)
theorem below_other {w0 : World} (h : Below w0.heap.size w0 W) (hg : W.grownBy W2 row) (hr : ∀ r, row = some r → w0.heap.size ≤ r) : Below w0.heap.size w0 W2 := h.grown hg h.size hr
theorem Ty.other {b t n : Nat} (h : Ty W b t n) (hg : W.grownBy W2 row) (hr : NotCells W row) : Ty W2 b t n := by
  obtain ⟨cs, h1, h2⟩ := h
  exact ⟨cs, (grownBy_keeps_cells hg hr h1 rfl).trans h1, h2⟩
/-- What is no cells has turned. -/
theorem LK.other (s : LS c part fs l mine w0) (h : LK c mine w0 W st H P) (hg : W.grownBy W2 row) (hr : NotCells W row) (hb : ∀ r, row = some r → w0.heap.size ≤ r) : LK c mine w0 W2 st H P :=
  ⟨below_other h.B hg hb, cell_kept h.p0 hg hr, cell_kept h.p1 hg hr, cell_kept h.p2 hg hr, cell_kept h.p3 hg hr, cell_kept h.p4 hg hr, cell_kept h.p5 hg hr, cell_kept h.p6 hg hr, cell_kept h.p7 hg hr,
   cell_kept h.s0 hg hr, cell_kept h.s1 hg hr, cell_kept h.s2 hg hr, (let ⟨v, h1, h2⟩ := h.s3; ⟨v, cell_kept h1 hg hr, R_other h2 hg hr⟩),
   fun o => by
     obtain ⟨ob, ho, hc⟩ := cells_of_cell h.s0
     exact (World.frozen?_of_block (a := ⟨c.S, o, none⟩) (grownBy_keeps_cells hg hr ho hc)).trans (h.sf o),
   fun o => by
     have hm := s.m2
     obtain ⟨v, h1, _⟩ := h.en 0 (by omega)
     obtain ⟨ob, ho, hc⟩ := cells_of_cell h1
     exact (World.frozen?_of_block (a := ⟨c.EN, o, none⟩) (grownBy_keeps_cells hg hr ho hc)).trans (h.ef o),
   fun j hj => by
     obtain ⟨v, h1, h2, h3⟩ := h.en j hj
     exact ⟨v, cell_kept h1 hg hr, R_other h2 hg hr, h3⟩,
   R_other h.hr hg hr, R_other h.pt hg hr, R_other h.mn hg hr, Ty.other h.tS hg hr, Ty.other h.tE hg hr⟩
theorem KO.other {A B C : World} (h : KO c A B) (hg : B.grownBy C row) (hr : ∀ r, row = some r → A.heap.size ≤ r) : KO c A C :=
  ⟨Nat.le_trans h.1 hg.size, fun k ho hk => (hg.block k (Nat.lt_of_lt_of_le hk h.1) (fun e => by have := hr k e.symm; omega)).trans (h.2 k ho hk)⟩

/-- What is so of every end that is seen. -/
def inBig (p : Pt) : Prop := inB p ⟨⟨-1048576, 1048576⟩, ⟨-1048576, 1048576⟩⟩
def EOk (m : Nat) (st : See) : Prop := ∀ j, j < 4 * m → st.ends j = [] ∨ (st.ends j).length = m ∧ ∀ p ∈ st.ends j, inBig p
theorem EOk_see {m : Nat} {pt : List Pt} (h : EOk m st) (hl : pt.length = m) (hb : ∀ p ∈ pt, inBig p) : EOk m (seeP st pt) := by
  intro j hj
  show endP pt j (st.ends j) = [] ∨ _
  rcases h j hj with h1 | ⟨h1, h2⟩
  · exact .inr ⟨by simp [seeP, endP, h1, hl], by simpa [seeP, endP, h1] using hb⟩
  · refine .inr ?_
    simp only [seeP, endP]
    split
    · exact ⟨hl, hb⟩
    · split
      · exact ⟨hl, hb⟩
      · exact ⟨h1, h2⟩
theorem EOk_fold {m : Nat} : ∀ (xs : List (List Pt)) {st : See}, EOk m st → (∀ pt ∈ xs, pt.length = m ∧ ∀ p ∈ pt, inBig p) → EOk m (xs.foldl seeP st)
  | [], _, h, _ => h
  | a :: r, _, h, hx => EOk_fold r (EOk_see h (hx a (by simp)).1 (hx a (by simp)).2) (fun pt hp => hx pt (by simp [hp]))
end

theorem placesP_in {b : Bx} {x : Pt} (h : x ∈ placesP b) : inB x b := by
  unfold placesP colP numsP upFrom at h
  simp only [List.mem_flatMap, List.mem_map, List.mem_range] at h
  obtain ⟨a, ⟨i, hi, rfl⟩, y, ⟨j, hj, rfl⟩, rfl⟩ := h
  unfold inB
  dsimp only
  omega
theorem inB_big {b : Bx} {x : Pt} (hv : validB b = true) (h : inB x b) : inBig x := by
  obtain ⟨h1, h2, h3, h4, h5, h6, h7, h8⟩ := valid_bd hv
  unfold inB at h
  unfold inBig inB
  dsimp only
  omega
theorem solsP_big {fs : List Fct} {l : List Bx} (hv : AllValid l) : ∀ (r : List Int) (ms : List (List Int)) (here : List Bx) (pre : List Pt), (∀ i ∈ r, 0 ≤ i ∧ i < (l.length : Int)) → (∀ p ∈ pre, inBig p) → ∀ s ∈ solsP fs l r ms here pre, ∀ p ∈ s, inBig p
  | [], _, _, pre, _, hp, s, hs => by simp [solsP] at hs; rw [hs]; exact hp
  | i :: r, ms, here, pre, hi, hp, s, hs => by
    rw [solsP_cons, List.mem_flatMap] at hs
    obtain ⟨x, hx, hxs⟩ := hs
    unfold stepS at hxs
    split at hxs
    · refine solsP_big hv r _ _ _ (fun j hj => hi j (by simp [hj])) ?_ s hxs
      intro p hp2
      rcases List.mem_append.1 hp2 with h | h
      · exact hp p h
      · rw [List.mem_singleton.1 h]
        exact inB_big (hv i (hi i (by simp)).1 (hi i (by simp)).2) (placesP_in hx)
    · simp at hxs

/-- A range over a function whose variable (slot j) is boxed (slot jb), at the wide fence, in a function for activations. -/
theorem range_box {P : Program} {α : Type} {g : Operand} {assign body : Code} {Q : Exit → Act → World → Prop} {a : Act} {w : World} {n : Nat} (j jb : Nat) (enc : α → Value) (h1 : 1 ≤ n) {gf : Nat} {lb : Array Value}
    (hg : a.eval g = .func (.func gf) #[] lb) (eg : ∀ args w, (callFunc gf args).run P w = .ok (.enter gf args) w)
    {Kp : World → World → Prop} {S Sp : List α → Prop} {N : Nat} {w0 : World} (hseq : SeqStopsK Fence.wide (n - 1) P gf lb (fun x => #[enc x]) Kp S Sp N w0)
    (hKt : ∀ {A B C : World}, Kp A B → Kp B C → Kp A C) (hKb : ∀ (W : World) (l : Nat) (o o' : Obj), w.heap.size ≤ l → W.heap[l]? = some o → o.isCells = false → o.isWalk = false → Kp W (W.putObj l o')) (hb0 : Below w0.heap.size w0 w)
    (I : List α → World → Prop) (hI : OwnFrom w.heap.size I) (h0 : I [] w) (PB : α → Nat → World → Prop) (hPB : ∀ x B, OwnFrom w.heap.size (fun (_ : Unit) W => PB x B W))
    (hassign : ∀ (l : Nat) (pre : List α) (x : α) (W : World) (K : Act → World → Prop), I pre W → (∀ B W', KeepsFrom w.heap.size W W' → Kp W W' → I pre W' → PB x B W' → K { tmps := (a.tmps.setIfInBounds j (enc x)).setIfInBounds jb (.pointer (some ⟨B, 0, none⟩)), defers := [] } W') →
      assign.wpIn (Fence.wide.inRound l) (n - 1 - 1) P (Exit.then K (fun _ _ _ => False)) { tmps := a.tmps.setIfInBounds j (enc x), defers := [] } W)
    (hbody : ∀ (l : Nat) (pre : List α) (x : α) (B : Nat) (W : World), w.heap.size ≤ l → I pre W → PB x B W → pre.length < N →
      body.wpIn (Fence.wide.inRound l) (n - 1 - 1) P (ownPostG w.heap.size Kp I (fun _ _ _ => False) (pre ++ [x]) W) { tmps := (a.tmps.setIfInBounds j (enc x)).setIfInBounds jb (.pointer (some ⟨B, 0, none⟩)), defers := [] } W)
    (hdone : ∀ (D : Nat) (xs : List α) (W : World), w.heap.size ≤ D → S xs → I xs W → W.heap[D]? = some (.deferred (some [])) → Q .normal { a with defers := { target := .collected D, args := #[] } :: a.defers } W) :
    (Code.rangeFunc g #[j] assign body).wp P Q a w := by
  refine (wpIn_wide (n := n)).1 (wpIn_rangeFunc_ownH (F := Fence.wide) rfl h1 hg trivial eg hseq (fun h k => hKt h k) hKb hb0 (fun _ => rfl) I (fun _ _ _ => False) hI (fun _ _ _ _ _ h _ _ => h) h0
    (fun x a' W => ∃ B, PB x B W ∧ a' = { tmps := (a.tmps.setIfInBounds j (enc x)).setIfInBounds jb (.pointer (some ⟨B, 0, none⟩)), defers := [] })
    (fun x a' s A B row hs hg hr => let ⟨b, h1, h2⟩ := hs; ⟨b, hPB x b s A B row h1 hg hr, h2⟩) ?_ ?_ hdone (fun _ _ _ _ _ _ h => h.elim))
  · intro l pre x W K hi hK
    have h := hassign l pre x W K hi (fun B W' k1 k2 k3 k4 => hK _ W' k1 k2 k3 ⟨B, k4, rfl⟩)
    simpa using h
  · intro l pre x a' W hl _ hi hax hlen
    obtain ⟨B, h1, rfl⟩ := hax
    exact hbody l pre x B W hl hi h1 hlen
end Go.Proofs.Ytkkimlicabbooaa

/-
  A whole box, a whole point is stored into a row of the call's own.
-/
namespace Go.Proofs.Ytkkimlicabbooaa
open Go.RowKit Go.Proofs.YtkkimlicabbooaaW.PrintWords Bs
set_option linter.unusedVariables false
set_option linter.unusedSimpArgs false

theorem getD_set {α : Type} {l : List α} {i : Nat} {x z : α} (h : i < l.length) : (l.set i x).getD i z = x := by
  rw [List.getD_eq_getElem?_getD, List.getElem?_set_self h]; rfl
theorem R_setBx {e base g n cap : Nat} {ok : Nat → Prop} {W : World} {xs : List Bx} (h : kBx.R e W base ok (.slice (some ⟨g, 0, none⟩) n cap) xs) (i : Nat) (hi : i < n) (b : Bx) :
    kBx.R e ((((W.setCell ⟨g, i * 4, none⟩ (.int .i64 b.x.lo)).setCell ⟨g, i * 4 + 1, none⟩ (.int .i64 b.x.hi)).setCell ⟨g, i * 4 + 2, none⟩ (.int .i64 b.y.lo)).setCell ⟨g, i * 4 + 3, none⟩ (.int .i64 b.y.hi)) base ok (.slice (some ⟨g, 0, none⟩) n cap) (xs.set i b) ∧
      W.grownBy ((((W.setCell ⟨g, i * 4, none⟩ (.int .i64 b.x.lo)).setCell ⟨g, i * 4 + 1, none⟩ (.int .i64 b.x.hi)).setCell ⟨g, i * 4 + 2, none⟩ (.int .i64 b.y.lo)).setCell ⟨g, i * 4 + 3, none⟩ (.int .i64 b.y.hi)) (some g) := by
  have hl := (row_C h).1
  have h1 := R_set1 (z := (⟨⟨0, 0⟩, ⟨0, 0⟩⟩ : Bx)) h i hi (j := 0) (by decide) (u := .int .i64 b.x.lo) (x' := ⟨⟨b.x.lo, (xs.getD i ⟨⟨0, 0⟩, ⟨0, 0⟩⟩).x.hi⟩, (xs.getD i ⟨⟨0, 0⟩, ⟨0, 0⟩⟩).y⟩) rfl
  have h2 := R_set1 (z := (⟨⟨0, 0⟩, ⟨0, 0⟩⟩ : Bx)) h1.1 i hi (j := 1) (by decide) (u := .int .i64 b.x.hi) (x' := ⟨b.x, (xs.getD i ⟨⟨0, 0⟩, ⟨0, 0⟩⟩).y⟩) (by rw [getD_set (by omega)]; rfl)
  rw [List.set_set] at h2
  have h3 := R_set1 (z := (⟨⟨0, 0⟩, ⟨0, 0⟩⟩ : Bx)) h2.1 i hi (j := 2) (by decide) (u := .int .i64 b.y.lo) (x' := ⟨b.x, ⟨b.y.lo, (xs.getD i ⟨⟨0, 0⟩, ⟨0, 0⟩⟩).y.hi⟩⟩) (by rw [getD_set (by omega)]; rfl)
  rw [List.set_set] at h3
  have h4 := R_set1 (z := (⟨⟨0, 0⟩, ⟨0, 0⟩⟩ : Bx)) h3.1 i hi (j := 3) (by decide) (u := .int .i64 b.y.hi) (x' := b) (by rw [getD_set (by omega)]; rfl)
  rw [List.set_set] at h4
  exact ⟨h4.1, grownBy_trans (grownBy_trans (grownBy_trans h1.2 h2.2) h3.2) h4.2⟩
theorem R_setPt {e base g n cap : Nat} {ok : Nat → Prop} {W : World} {xs : List Pt} (h : kPt.R e W base ok (.slice (some ⟨g, 0, none⟩) n cap) xs) (i : Nat) (hi : i < n) (b : Pt) :
    kPt.R e ((W.setCell ⟨g, i * 2, none⟩ (.int .i64 b.x)).setCell ⟨g, i * 2 + 1, none⟩ (.int .i64 b.y)) base ok (.slice (some ⟨g, 0, none⟩) n cap) (xs.set i b) ∧
      W.grownBy ((W.setCell ⟨g, i * 2, none⟩ (.int .i64 b.x)).setCell ⟨g, i * 2 + 1, none⟩ (.int .i64 b.y)) (some g) := by
  have hl := (row_C h).1
  have h1 := R_set1 (z := (⟨0, 0⟩ : Pt)) h i hi (j := 0) (by decide) (u := .int .i64 b.x) (x' := ⟨b.x, (xs.getD i ⟨0, 0⟩).y⟩) rfl
  have h2 := R_set1 (z := (⟨0, 0⟩ : Pt)) h1.1 i hi (j := 1) (by decide) (u := .int .i64 b.y) (x' := b) (by rw [getD_set (by omega)]; rfl)
  rw [List.set_set] at h2
  exact ⟨h2.1, grownBy_trans h1.2 h2.2⟩
theorem take_set_self {α : Type} : ∀ (l : List α) (k : Nat) (x : α), (l.set k x).take k = l.take k
  | [], k, x => by simp
  | a :: r, 0, x => by simp
  | a :: r, k + 1, x => by simp [take_set_self r k x]
theorem take_set_succ {α : Type} : ∀ (l : List α) (k : Nat) (x : α), k < l.length → (l.set k x).take (k + 1) = l.take k ++ [x]
  | [], k, x, h => by simp at h
  | a :: r, 0, x, _ => by simp
  | a :: r, k + 1, x, h => by
    simp at h
    simp [take_set_succ r k x h]
theorem headD_drop {mine : List (List Int)} {k : Nat} : (mine.drop k).headD [] = rRow mine k := by
  unfold rRow
  rw [List.getD_eq_getElem?_getD, List.headD_eq_head?_getD, List.head?_drop]
theorem KO.keeps {c : Cp} {part : List Int} {fs : List Fct} {l : List Bx} {mine : List (List Int)} {w0 A B : World} {st : See} {H : List Bx} {P : List Pt} (s : LS c part fs l mine w0) (h : LK c mine w0 A st H P) (k : KO c A B) (D : Nat) : KeepsFrom D A B := by
  refine ⟨k.1, fun i o _ hi hc => ?_⟩
  have hout : c.out i := by
    have ne : ∀ (q off : Nat) (v : Value), A.cell? ⟨q, off, none⟩ = some v → i ≠ q := by
      intro q off v hq e
      subst e
      obtain ⟨o', ho', hc'⟩ := cells_of_cell hq
      rw [show A.heap[i]? = some o' from ho'] at hi
      cases hi
      rw [hc'] at hc
      cases hc
    obtain ⟨v0, e0, _⟩ := h.en 0 (by have := s.m2; omega)
    obtain ⟨_, _, he, _, y0, _⟩ := at_Bx (row_C h.hr).2 0 (by omega) (by have := s.n1; omega)
    cases he
    obtain ⟨_, _, he, _, z0, _⟩ := at_Pt (row_C h.pt).2 0 (by omega) (by have := s.m2; omega)
    cases he
    exact ⟨ne _ _ _ h.s0, ne _ _ _ e0, ne _ _ _ y0, ne _ _ _ z0⟩
  exact (k.2 i hout (Array.getElem?_eq_some_iff.1 hi).1).trans hi
end Go.Proofs.Ytkkimlicabbooaa

/-
  Plain facts for choose's recursion.
-/
namespace Go.Proofs.Ytkkimlicabbooaa
open Go.RowKit Go.Proofs.YtkkimlicabbooaaW.PrintWords Bs
set_option linter.unusedVariables false
set_option linter.unusedSimpArgs false

theorem rBx_set {H : List Bx} {q : Nat} {b : Bx} {i : Int} (h0 : 0 ≤ i) (hne : i ≠ (q : Int)) : rBx (H.set q b) i = rBx H i := by
  obtain ⟨j, rfl⟩ := Int.eq_ofNat_of_zero_le h0
  have hj : q ≠ j := fun e => hne (by rw [e])
  rw [rBx_nat, rBx_nat, List.getD_eq_getElem?_getD, List.getD_eq_getElem?_getD, List.getElem?_set_ne hj]
theorem rBx_set_self {H : List Bx} {q : Nat} {b : Bx} (h : q < H.length) : rBx (H.set q b) (q : Int) = b := by
  rw [rBx_nat, getD_set h]
theorem set_get_self {H : List Bx} {q : Nat} (h : q < H.length) : H.set q (rBx H (q : Int)) = H := by
  rw [rBx_nat]
  refine List.ext_getElem? (fun j => ?_)
  by_cases hj : q = j
  · subst hj
    rw [List.getElem?_set_self h, List.getD_eq_getElem?_getD, List.getElem?_eq_getElem h]; rfl
  · rw [List.getElem?_set_ne hj]
theorem valid_set {H : List Bx} {q : Nat} {b : Bx} (h : AllValid H) (hb : validB b = true) : AllValid (H.set q b) := by
  intro i h0 hi
  rw [List.length_set] at hi
  by_cases e : i = (q : Int)
  · subst e
    rw [rBx_set_self (by omega)]; exact hb
  · rw [rBx_set h0 e]; exact h i h0 hi
theorem valid_atP {x : Pt} (h : inBig x) : validB (atP x) = true := by
  unfold inBig inB at h
  dsimp only at h
  obtain ⟨h1, h2, h3, h4⟩ := h
  have e : -1048576 ≤ x.x ∧ x.x ≤ 1048576 ∧ -1048576 ≤ x.y ∧ x.y ≤ 1048576 := ⟨h1, h2, h3, h4⟩
  obtain ⟨e1, e2, e3, e4⟩ := e
  simp [validB, spanB, atP, e1, e2, e3, e4]
end Go.Proofs.Ytkkimlicabbooaa

/-
  look of package search: the closure choose.
-/
namespace Go.Proofs.Ytkkimlicabbooaa
open Go.RowKit Go.Proofs.YtkkimlicabbooaaW.PrintWords Bs
attribute [local go_sem] Later.cell? Later.frozen?
attribute [local go_sem] Oper.semAt_some
set_option linter.unusedVariables false
set_option linter.unusedSimpArgs false

/-- What choose says of itself. -/
def ChooseC (c : Cp) (fs : List Fct) (l : List Bx) (mine : List (List Int)) (w0 : World) (part r : List Int) : Prop :=
  ∀ (k : Nat) (W : World) (st : See) (H : List Bx) (P pre : List Pt), k + r.length = c.m → part.drop k = r → P.take k = pre → pre.length = k → (∀ i ∈ r, rBx H i = rBx l i) → AllValid H →
    LK c mine w0 W st H P → 0 ≤ st.cnt → st.cnt + volR l r ≤ 9000000000000000000 → EOk c.m st → (∀ p ∈ pre, inBig p) →
    Calls Try.prog 75 #[.int .i64 k, .pointer (some ⟨c.bPart, 0, none⟩), .pointer (some ⟨c.bS, 0, none⟩), .pointer (some ⟨c.bPt, 0, none⟩), .pointer (some ⟨c.bL, 0, none⟩), .pointer (some ⟨c.bHr, 0, none⟩), .pointer (some ⟨c.bP, 0, none⟩), .pointer (some ⟨c.bMn, 0, none⟩), .pointer (some ⟨c.bCh, 0, none⟩)] W
      (ChoosePost c mine w0 W ((solsP fs l r (mine.drop k) H pre).foldl seeP st) H k pre)

theorem choose_nil (c : Cp) (part : List Int) (fs : List Fct) (l : List Bx) (mine : List (List Int)) (w0 : World) (s : LS c part fs l mine w0) : ChooseC c fs l mine w0 part [] := by
  intro k W st H P pre hk hd hP hl hH hV h hc0 hc1 hE hb
  obtain rfl : k = c.m := by simpa using hk
  have hPl := (row_C h.pt).1
  obtain rfl : P = pre := by rw [← hP, List.take_of_length_le (by omega)]
  have hv : volR l [] = 1 := rfl
  exact choose_end c part fs l mine w0 W st H P s h hc0 (by rw [hv] at hc1; omega) hb hE

set_option maxHeartbeats 3200000 in
set_option maxRecDepth 100000 in
theorem choose_cons (c : Cp) (part : List Int) (fs : List Fct) (l : List Bx) (mine : List (List Int)) (w0 : World) (s : LS c part fs l mine w0) (i : Int) (r : List Int) (ih : ChooseC c fs l mine w0 part r) : ChooseC c fs l mine w0 part (i :: r) := by
  intro k W st H P pre hk hd hP hl hH hV h hc0 hc1 hE hb
  have HS := Aside0.mk s
  have HK := Aside0.mk h
  have HE := Aside0.mk hE
  have HIH := Aside0.mk ih
  have HPP := Aside0.mk hP
  have HPL := Aside0.mk hl
  have HHH := Aside0.mk hH
  have HVH := Aside0.mk hV
  have HPB := Aside0.mk hb
  have HD := Aside0.mk hd
  have HC0 := Aside0.mk hc0
  have HC1 := Aside0.mk hc1
  have hkm : k < c.m := by simp at hk; omega
  have hkm1 : k ≤ 12 := by have := s.m12; omega
  have HKM := Aside0.mk hk
  have hkb : ((k : Int) == (c.m : Int)) = false := by simp; omega
  have hdr := List.drop_eq_getElem_cons (l := part) (i := k) (by have := s.hpart.1; omega)
  have hi : rInt part (k : Int) = i ∧ part.drop (k + 1) = r := by
    rw [hd] at hdr
    injection hdr with h1 h2
    exact ⟨by rw [rInt_nat, List.getD_eq_getElem?_getD, List.getElem?_eq_getElem (by have := s.hpart.1; omega)]; simp [h1], h2.symm⟩
  obtain ⟨hi1, hi2⟩ := hi
  have HR := Aside0.mk hi2
  have hip := s.pin i (by rw [← hi1, rInt_nat]; exact mem_get (by have := s.hpart.1; omega))
  obtain ⟨hi0, hin⟩ := hip
  clear s h hE ih hP hl hH hV hb hd hc0 hc1 hk hdr hi2
  obtain ⟨q, rfl⟩ := Int.eq_ofNat_of_zero_le hi0
  have p0 := HK.out.p0
  have p3 := HK.out.p3
  have l0 : c.bPart < W.heap.size := cell_lt p0
  have l3 : c.bL < W.heap.size := cell_lt p3
  obtain ⟨ba, oa, hpa, hpb, e0⟩ := at_Int (Kd.C_below HS.out.hpart HK.out.B) (k : Int) (by omega) (by omega)
  obtain ⟨bl, ol, hla, hlb, x0, x1, x2, x3⟩ := at_Bx (Kd.C_below HS.out.hl HK.out.B) (q : Int) (by omega) (by omega)
  rw [hi1] at e0
  rw [hpa] at p0
  rw [hla] at p3
  simp only [Int.toNat_natCast] at e0 x0 x1 x2 x3
  refine callsIn_wide (n := 3) |>.1 (callsIn_of_wp_marks Try.func75 rfl trivial ?_ rfl)
  refine wpIn_wide.2 ?_
  simp only [Try.ntmps75, List.size_toArray, List.length_cons, List.length_nil, Nat.reduceAdd, Nat.reduceSub, Array.replicate_succ, Array.replicate_zero, List.push_toArray, List.append_toArray, List.nil_append, List.cons_append]
  go_wp2_with fail
  have hba : ba < W.heap.size + 1 := by omega
  have hbl : bl < W.heap.size + 1 := by omega
  have l0' : c.bPart < W.heap.size + 1 := by omega
  have l3' : c.bL < W.heap.size + 1 := by omega
  (refine wp_region_tail (C := fun w' => ∃ t : Later _, w' = t.w) 7 (by kernel_rfl) (by kernel_rfl) (by decide) (by kernel_rfl) (by kernel_rfl) (by kernel_rfl) (by kernel_rfl) (IsLater.drew _) ?_; simp only [List.take_succ_cons, List.take_zero]; (repeat (first | go_big_quiet_step (fail) | quiet_step (fail))); refine wpQuiet_nil ?_; rintro _ ⟨tq, rfl⟩; refine tail_seq 7 (by kernel_rfl) ?_; simp only [List.drop_succ_cons, List.drop_zero])
  have hq := tq.h
  go_wp2_with (first | (go_at_call 78; refine (places_c (rBx l (q : Int)) _).mono ?_; rintro e w7 ⟨bx, rfl, hbx0, hbx1, b0, b1, b2, b3, hb7⟩))
  have HB7 := Aside0.mk (show Below W.heap.size W w7 from (by repeat (first | (with_reducible exact Below.refl _ _) | (with_reducible exact HB.out) | (with_reducible assumption) | (with_reducible apply below_alloc) | (with_reducible apply below_drew) | (with_reducible apply pw_below_drewN) | (with_reducible refine bstep' ?_ (by assumption)) | ((with_reducible refine Below.setCell ?_ ?_ _); rotate_left; (first | (dsimp only; omega) | (simp; done) | (simp; omega) | omega)))))
  have HK7 := Aside0.mk (HK.out.below HS.out HB7.out)
  have HO7 := Aside0.mk (KO.below (c := c) HB7.out)
  have hqs := hq.size
  have ck : w7.cell? ⟨W.heap.size, 0, none⟩ = some (.int .i64 k) := by
    refine (hb7.cell (p := ⟨W.heap.size, 0, none⟩) (by simp at hqs ⊢; omega)).trans ((hq.cell (p := ⟨W.heap.size, 0, none⟩) (by simp)).trans ?_)
    go_simp
  have hkl : W.heap.size < w7.heap.size := by have := hb7.size; simp at hqs; omega
  have hko := Aside0.mk (HK.out.ge_out HS.out (Nat.le_refl W.heap.size))
  have hbo := Aside0.mk (HK.out.ge_out HS.out (show W.heap.size ≤ bx by simp at hqs; omega))
  have HVB := Aside0.mk (HS.out.hv (q : Int) (by omega) (by have := HS.out.hl.1; omega))
  have HBX := Aside0.mk b0
  have HBX1 := Aside0.mk b1
  have HBX2 := Aside0.mk b2
  have HBX3 := Aside0.mk b3
  clear hq hqs hb7 p0 p3 e0 x0 x1 x2 x3 hba hbl l0 l3 l0' l3' hbx0 b0 b1 b2 b3 hpb hlb
  generalize tq.w = tw at *
  refine range_box 89 14 (fun x : { x : Pt // inB x (rBx l (q : Int)) } => (.agg #[.int .i64 x.1.x, .int .i64 x.1.y])) (n := 3) (by omega) rfl (enters_of Try.func96 (by kernel_rfl) rfl) (places_stops (rBx l (q : Int)) bx 2 w7 HVB.out HBX.out HBX1.out HBX2.out HBX3.out)
    (fun h k => KpB.trans h k) (fun W2 li o o' hli ho _ _ => ⟨by simp, World.putObj_heap_other (by omega)⟩) (Below.refl _ _)
    (fun xs W2 => ∃ (H2 : List Bx) (P2 : List Pt), (∀ b : Bx, H2.set q b = H.set q b) ∧ P2.take k = pre ∧ LK c mine w0 W2 (((xs.map (·.1)).flatMap (stepS fs l (q : Int) r (mine.drop k) H pre)).foldl seeP st) H2 P2 ∧ KO c w7 W2)
    (fun xs A B row hs hg hr => by
      obtain ⟨H2, P2, h1, h2, h3, h4⟩ := hs
      exact ⟨H2, P2, h1, h2, h3.other HS.out hg (fun r e => (hr r e).2) (fun r e => Nat.le_trans HK7.out.B.size (hr r e).1), h4.other hg (fun r e => (hr r e).1)⟩)
    ⟨H, P, fun _ => rfl, HPP.out, HK7.out, KO.refl _ _⟩
    (fun x B W2 => c.out B ∧ w7.heap.size ≤ B ∧ W2.cell? ⟨B, 0, none⟩ = some (.int .i64 x.1.x) ∧ W2.cell? ⟨B, 1, none⟩ = some (.int .i64 x.1.y))
    (fun x B s A C row hs hg hr => ⟨hs.1, hs.2.1, cell_kept hs.2.2.1 hg (fun r e => (hr r e).2), cell_kept hs.2.2.2 hg (fun r e => (hr r e).2)⟩) ?assign ?body ?done
  case assign =>
    intro li xs x W2 K hI hK
    obtain ⟨H2, P2, h1, h2, h3, h4⟩ := hI
    gi_wp2
    have hb := below_alloc (Below.refl W2.heap.size W2) (.cells #[.int .i64 x.1.x, .int .i64 x.1.y] 49)
    exact hK W2.heap.size _ ((KeepsOthers.alloc _ _).from _) ⟨hb.size, hb.block bx (Nat.lt_of_lt_of_le hbx1 h4.1)⟩ ⟨H2, P2, h1, h2, h3.below HS.out hb, h4.trans (KO.below hb)⟩ ⟨h3.ge_out HS.out (Nat.le_refl _), h4.1, by go_simp, by go_simp⟩
  case body =>
    rintro li xs x Bv W2 hli ⟨H2, P2, h1, h2, h3, h4⟩ ⟨hB1, hB2, z0, z1⟩ hlen
    have K2 := Aside0.mk h3
    have KO2 := Aside0.mk h4
    have HXB := Aside0.mk hB1
    have H12 := Aside0.mk h1
    have H22 := Aside0.mk h2
    have hkl2 := Nat.lt_of_lt_of_le hkl h4.1
    have ck2 := (World.cell?_of_block (a := ⟨W.heap.size, 0, none⟩) (h4.2 _ hko.out hkl)).trans ck
    clear h1 h2 h3 h4 hB1
    have p0 := K2.out.p0
    have p2 := K2.out.p2
    have p4 := K2.out.p4
    have l0 : c.bPart < W2.heap.size := cell_lt p0
    have l2 : c.bPt < W2.heap.size := cell_lt p2
    have l4 : c.bHr < W2.heap.size := cell_lt p4
    have l5 : Bv < W2.heap.size := cell_lt z0
    obtain ⟨ba, oa, hpa, hpb, e0⟩ := at_Int (Kd.C_below HS.out.hpart K2.out.B) (k : Int) (by omega) (by omega)
    rw [hi1] at e0
    rw [hpa] at p0
    simp only [Int.toNat_natCast] at e0
    have hhr := row_C K2.out.hr
    have hpt := row_C K2.out.pt
    have fH := (R_own1 K2.out.hr HS.out.n1).1
    have fP := (R_own1 K2.out.pt (by omega)).1
    obtain ⟨_, _, he, _, y0, y1, y2, y3⟩ := at_Bx hhr.2 (q : Int) (by omega) (by omega)
    cases he
    obtain ⟨_, _, he, _, v0, v1⟩ := at_Pt hpt.2 (k : Int) (by omega) (by omega)
    cases he
    simp only [Int.toNat_natCast, Nat.zero_add] at y0 y1 y2 y3 v0 v1
    simp
    gi_wp2
    have n0 := HS.out.o0.2.2.1
    have n2 := HS.out.o2.2.2.1
    have n4 := HS.out.o4.2.2.1
    have nk := hko.out.2.2.1
    have nB := HXB.out.2.2.1
    have m0 := HS.out.o0.2.2.2
    have m2' := HS.out.o2.2.2.2
    have m4 := HS.out.o4.2.2.2
    have mk := hko.out.2.2.2
    have mB := HXB.out.2.2.2
    have ma : ba ≠ c.PT := by
      obtain ⟨_, _, he, hlt, _⟩ := at_Int HS.out.hpart (k : Int) (by omega) (by omega)
      rw [hpa] at he
      cases he
      have h5 := HS.out.lP
      have h6 := HS.out.base
      omega
    have na : ba ≠ c.HR := by
      obtain ⟨_, _, he, hlt, _⟩ := at_Int HS.out.hpart (k : Int) (by omega) (by omega)
      rw [hpa] at he
      cases he
      have h5 := HS.out.lH
      have h6 := HS.out.base
      omega
    refine wpIn_region_held (S := fun w' => (∀ b o, b < W2.heap.size → b ≠ c.HR → b ≠ c.PT → w'.cell? ⟨b, o, none⟩ = W2.cell? ⟨b, o, none⟩) ∧ W2.heap.size ≤ w'.heap.size) (by kernel_rfl) (by rintro ⟨_, _, h⟩; exact h) (by kernel_rfl) ⟨fun _ _ _ _ _ => rfl, Nat.le_refl _⟩ (fun hHeld => ?_)
    (refine wpAnyH_take (i := 0) (v := ?_) rfl (by kernel_rfl) (by kernel_rfl) (by kernel_rfl) (fun _ _ _ h => h) (Or.inl ⟨by rfl, ?_⟩) (by assumption) ?_; rotate_left; (focus ((intro w hSw; (try dsimp only at hSw); go_simp); (try with_reducible rfl))); (try simp only [Act.put, List.setIfInBounds_toArray, List.set_cons_zero, List.set_cons_succ]))
    (refine wpAnyH_take (i := 1) (v := ?_) rfl (by kernel_rfl) (by kernel_rfl) (by kernel_rfl) (fun _ _ _ h => h) (Or.inl ⟨by rfl, ?_⟩) (by assumption) ?_; rotate_left; (focus ((intro w hSw; (try dsimp only at hSw); go_simp); (try with_reducible rfl))); (try simp only [Act.put, List.setIfInBounds_toArray, List.set_cons_zero, List.set_cons_succ]))
    (refine wpAnyH_take (i := 2) (v := ?_) rfl (by kernel_rfl) (by kernel_rfl) (by kernel_rfl) (fun _ _ _ h => h) (Or.inl ⟨by rfl, ?_⟩) (by assumption) ?_; rotate_left; (focus ((intro w hSw; (try dsimp only at hSw); go_simp); (try with_reducible rfl))); (try simp only [Act.put, List.setIfInBounds_toArray, List.set_cons_zero, List.set_cons_succ]))
    (refine wpAnyH_take (i := 3) (v := ?_) rfl (by kernel_rfl) (by kernel_rfl) (by kernel_rfl) (fun _ _ _ h => h) (Or.inl ⟨by rfl, ?_⟩) (by assumption) ?_; rotate_left; (focus ((intro w hSw; (try dsimp only at hSw); go_simp); (try with_reducible rfl))); (try simp only [Act.put, List.setIfInBounds_toArray, List.set_cons_zero, List.set_cons_succ]))
    (refine wpAnyH_take (i := 4) (v := ?_) rfl (by kernel_rfl) (by kernel_rfl) (by kernel_rfl) (fun _ _ _ h => h) (Or.inl ⟨by rfl, ?_⟩) (by assumption) ?_; rotate_left; (focus ((intro w hSw; (try dsimp only at hSw); go_simp); (try with_reducible rfl))); (try simp only [Act.put, List.setIfInBounds_toArray, List.set_cons_zero, List.set_cons_succ]))
    (refine wpAnyH_take (i := 5) (v := ?_) rfl (by kernel_rfl) (by kernel_rfl) (by kernel_rfl) (fun _ _ _ h => h) (Or.inl ⟨by rfl, ?_⟩) (by assumption) ?_; rotate_left; (focus ((intro w hSw; (try dsimp only at hSw); go_simp); (try with_reducible rfl))); (try simp only [Act.put, List.setIfInBounds_toArray, List.set_cons_zero, List.set_cons_succ]))
    (refine wpAnyH_take (i := 6) (v := ?_) rfl (by kernel_rfl) (by kernel_rfl) (by kernel_rfl) (fun _ _ _ h => h) (Or.inl ⟨by rfl, ?_⟩) (by assumption) ?_; rotate_left; (focus ((intro w hSw; (try dsimp only at hSw); go_simp); (try with_reducible rfl))); (try simp only [Act.put, List.setIfInBounds_toArray, List.set_cons_zero, List.set_cons_succ]))
    (refine wpAnyH_take (i := 7) (v := ?_) rfl (by kernel_rfl) (by kernel_rfl) (by kernel_rfl) (fun _ _ _ h => h) (Or.inl ⟨by rfl, ?_⟩) (by assumption) ?_; rotate_left; (focus ((intro w hSw; (try dsimp only at hSw); go_simp); (try with_reducible rfl))); (try simp only [Act.put, List.setIfInBounds_toArray, List.set_cons_zero, List.set_cons_succ]))
    (refine wpAnyH_take (i := 9) (v := ?_) rfl (by kernel_rfl) (by kernel_rfl) (by kernel_rfl) (fun _ _ _ h => h) (Or.inl ⟨by rfl, ?_⟩) (by assumption) ?_; rotate_left; (focus ((intro w hSw; (try dsimp only at hSw); go_simp); (try with_reducible rfl))); (try simp only [Act.put, List.setIfInBounds_toArray, List.set_cons_zero, List.set_cons_succ]))
    refine wpAnyH_ready (rs := [8]) (by kernel_rfl) (by simp) ?_
    refine AllReadyH.cons rfl (fun K hK => ?_) AllReadyH.nil
    go_simp
    go_at_call 71
    refine (at_c _ _).mono ?_
    rintro e w8 ⟨rfl, hb8⟩
    (try go_wp2_with fail)
    refine hK.out _ _ ⟨fun b o hl _ _ => hb8.cell (p := ⟨b, o, none⟩) hl, hb8.size⟩ (fun hHeld => ?_)
    clear hK K
    (try simp only [Act.put, List.setIfInBounds_toArray, List.set_cons_zero, List.set_cons_succ])
    have K8 := Aside0.mk (K2.out.below HS.out (show Below W2.heap.size W2 w8 from (by repeat (first | (with_reducible exact Below.refl _ _) | (with_reducible exact HB.out) | (with_reducible assumption) | (with_reducible apply below_alloc) | (with_reducible apply below_drew) | (with_reducible apply pw_below_drewN) | (with_reducible refine bstep' ?_ (by assumption)) | ((with_reducible refine Below.setCell ?_ ?_ _); rotate_left; (first | (dsimp only; omega) | (simp; done) | (simp; omega) | omega))))))
    have KO8 := Aside0.mk (KO.below (c := c) (show Below W2.heap.size W2 w8 from (by repeat (first | (with_reducible exact Below.refl _ _) | (with_reducible exact HB.out) | (with_reducible assumption) | (with_reducible apply below_alloc) | (with_reducible apply below_drew) | (with_reducible apply pw_below_drewN) | (with_reducible refine bstep' ?_ (by assumption)) | ((with_reducible refine Below.setCell ?_ ?_ _); rotate_left; (first | (dsimp only; omega) | (simp; done) | (simp; omega) | omega))))))
    (refine wpAnyH_take (i := 10) (v := ?_) rfl (by kernel_rfl) (by kernel_rfl) (by kernel_rfl) (fun _ _ _ h => h) (Or.inl ⟨by rfl, ?_⟩) (by assumption) ?_; rotate_left; (focus ((intro w hSw; (try dsimp only at hSw); go_simp); (try with_reducible rfl))); (try simp only [Act.put, List.setIfInBounds_toArray, List.set_cons_zero, List.set_cons_succ]))
    clear y0 y1 y2 y3 v0 v1 fH fP
    have fH := (R_own1 K8.out.hr HS.out.n1).1
    have fP := (R_own1 K8.out.pt (by omega)).1
    obtain ⟨_, _, he, hHl, y0, y1, y2, y3⟩ := at_Bx (row_C K8.out.hr).2 (q : Int) (by omega) (by omega)
    cases he
    obtain ⟨_, _, he, hPl, v0, v1⟩ := at_Pt (row_C K8.out.pt).2 (k : Int) (by omega) (by omega)
    cases he
    simp only [Int.toNat_natCast, Nat.zero_add] at y0 y1 y2 y3 v0 v1
    have d6 := HS.out.d6
    refine wpAnyH_ready (rs := [11]) (by kernel_rfl) (by simp) ?_
    refine AllReadyH.cons rfl (fun K hK => ?_) AllReadyH.nil
    go_simp
    obtain ⟨hr9, hg9⟩ := R_setBx K8.out.hr q (by omega) (atP x.1)
    have K9 := Aside0.mk (LK.here HS.out K8.out hg9 hr9)
    have KO9 := Aside0.mk (KO8.out.trans (KO.grown hg9 (fun h => h.2.2.1 rfl)))
    have hS9 : (∀ b o, b < W2.heap.size → b ≠ c.HR → b ≠ c.PT → _ = W2.cell? ⟨b, o, none⟩) ∧ W2.heap.size ≤ _ := ⟨fun b o hl hne hne2 => (World.cell?_of_block (a := ⟨b, o, none⟩) (hg9.block b (Nat.lt_of_lt_of_le hl hHeld.2) (fun e => hne (by injection e)))).trans (hHeld.1 b o hl hne hne2), Nat.le_trans hHeld.2 hg9.size⟩
    refine hK.out _ _ hS9 (fun hHeld => ?_)
    clear hK K y0 y1 y2 y3 v0 v1 fH fP hr9
    generalize ((((w8.setCell _ _).setCell _ _).setCell _ _).setCell _ _) = w9 at *
    (try simp only [Act.put, List.setIfInBounds_toArray, List.set_cons_zero, List.set_cons_succ])
    (refine wpAnyH_take (i := 12) (v := ?_) rfl (by kernel_rfl) (by kernel_rfl) (by kernel_rfl) (fun _ _ _ h => h) (Or.inl ⟨by rfl, ?_⟩) (by assumption) ?_; rotate_left; (focus ((intro w hSw; (try dsimp only at hSw); go_simp); (try with_reducible rfl))); (try simp only [Act.put, List.setIfInBounds_toArray, List.set_cons_zero, List.set_cons_succ]))
    have fP := (R_own1 K9.out.pt (by omega)).1
    obtain ⟨_, _, he, hPl, v0, v1⟩ := at_Pt (row_C K9.out.pt).2 (k : Int) (by omega) (by omega)
    cases he
    simp only [Int.toNat_natCast, Nat.zero_add] at v0 v1
    refine wpAnyH_ready (rs := [13]) (by kernel_rfl) (by simp) ?_
    refine AllReadyH.cons rfl (fun K hK => ?_) AllReadyH.nil
    go_simp
    obtain ⟨hr10, hg10⟩ := R_setPt K9.out.pt k (by omega) x.1
    have K10 := Aside0.mk (LK.point HS.out K9.out hg10 hr10)
    have KO10 := Aside0.mk (KO9.out.trans (KO.grown hg10 (fun h => h.2.2.2 rfl)))
    have hS10 : (∀ b o, b < W2.heap.size → b ≠ c.HR → b ≠ c.PT → _ = W2.cell? ⟨b, o, none⟩) ∧ W2.heap.size ≤ _ := ⟨fun b o hl hne hne2 => (World.cell?_of_block (a := ⟨b, o, none⟩) (hg10.block b (Nat.lt_of_lt_of_le hl hHeld.2) (fun e => hne2 (by injection e)))).trans (hHeld.1 b o hl hne hne2), Nat.le_trans hHeld.2 hg10.size⟩
    refine hK.out _ _ hS10 (fun hHeld => ?_)
    clear hK K v0 v1 fP hr10 hg10
    have hS10 := hHeld
    generalize ((w9.setCell _ _).setCell _ _) = w10 at *
    (try simp only [Act.put, List.setIfInBounds_toArray, List.set_cons_zero, List.set_cons_succ])
    refine wpAnyH_done (by kernel_rfl) ?_ _
    have ck3 : w10.cell? ⟨W.heap.size, 0, none⟩ = some (.int .i64 k) := (World.cell?_of_block (a := ⟨W.heap.size, 0, none⟩) (KO10.out.2 _ hko.out hkl2)).trans ck2
    have hkl3 : W.heap.size < w10.heap.size := cell_lt ck3
    rw [H12.out] at K10
    clear p0 p2 p4 l0 l2 l4 l5 e0 ck2 hkl2 z0 z1 hHeld hS10 hS9 hhr hpt
    have p5 := K10.out.p5
    have p6 := K10.out.p6
    have p4 := K10.out.p4
    have p7 := K10.out.p7
    have l5 : c.bP < w10.heap.size := cell_lt p5
    have l6 : c.bMn < w10.heap.size := cell_lt p6
    have l4 : c.bHr < w10.heap.size := cell_lt p4
    have l7 : c.bCh < w10.heap.size := cell_lt p7
    obtain ⟨bm, om, hpm, hbm, Am, cm, mm, hCm⟩ := at_Row (row_C K10.out.mn).2 k (by omega)
    rw [hpm] at p6
    have HCm := Aside0.mk hCm
    have HAV := Aside0.mk (show AllValid (H.set q (atP x.1)) from valid_set HVH.out (valid_atP (inB_big HVB.out x.2)))
    clear hCm
    gi_wp2
    (refine wpIn_region_quiet (C := fun w' => ∃ t : Later _, w' = t.w) (by kernel_rfl) (by rintro ⟨_, _, h⟩; exact h) (by kernel_rfl) (by kernel_rfl) (IsLater.drew _) ?_; (repeat (first | go_big_quiet_step ((go_at_call 59; exact later_of (bad_c _ _ _ c.nf _ c.n _ _ _ fs (rRow mine k) (H.set q (atP x.1)) _ (Kd.C_below (Kd.C_below HS.out.hfs K10.out.B) (Later.h _)) (Kd.C_below HCm.out (Later.h _)) (Kd.C_below (row_C K10.out.hr).2 (Later.h _)) (HS.out.min k) HS.out.hf HAV.out))) | quiet_step ((go_at_call 59; exact later_of (bad_c _ _ _ c.nf _ c.n _ _ _ fs (rRow mine k) (H.set q (atP x.1)) _ (Kd.C_below (Kd.C_below HS.out.hfs K10.out.B) (Later.h _)) (Kd.C_below HCm.out (Later.h _)) (Kd.C_below (row_C K10.out.hr).2 (Later.h _)) (HS.out.min k) HS.out.hf HAV.out))))); refine wpQuiet_nil ?_; rintro _ ⟨tq, rfl⟩)
    have hq := tq.h
    have K11 := Aside0.mk (K10.out.below HS.out hq)
    have KO11 := Aside0.mk (KO10.out.trans (KO.below hq))
    have ck4 : tq.w.cell? ⟨W.heap.size, 0, none⟩ = some (.int .i64 k) := (hq.cell (p := ⟨W.heap.size, 0, none⟩) hkl3).trans ck3
    have p7' := K11.out.p7
    have hkl4 : W.heap.size < tq.w.heap.size := cell_lt ck4
    have l7' : c.bCh < tq.w.heap.size := cell_lt p7'
    clear p4 p5 p6 p7 l4 l5 l6 l7 ck3 hkl3 mm hq
    generalize tq.w = w11 at *
    by_cases hbd : badP fs (H.set q (atP x.1)) (rRow mine k) < 0
    · have HBD := Aside0.mk hbd
      have hP2l := (row_C K2.out.pt).1
      have hqr : (q : Int) ∉ r := (List.nodup_cons.1 (HD.out ▸ HS.out.nd.sublist (List.drop_sublist k part))).1
      have hrm : ∀ j ∈ r, j ∈ part := fun j hj => List.mem_of_mem_drop (i := k) (by rw [HD.out]; simp [hj])
      have hek : ∀ pt ∈ (xs.map (·.1)).flatMap (stepS fs l (q : Int) r (mine.drop k) H pre), pt.length = c.m ∧ ∀ p ∈ pt, inBig p := by
        intro pt hp
        obtain ⟨y, hy, hpt⟩ := List.mem_flatMap.1 hp
        obtain ⟨y', _, rfl⟩ := List.mem_map.1 hy
        unfold stepS at hpt
        split at hpt
        · refine ⟨?_, solsP_big HS.out.hv r _ _ _ (fun j hj => by have h5 := HS.out.pin j (hrm j hj); have := HS.out.hl.1; omega) (fun p hp => (List.mem_append.1 hp).elim (fun h => HPB.out p h) (fun h => by rw [List.mem_singleton.1 h]; exact inB_big HVB.out y'.2)) pt hpt⟩
          have h5 := solsP_len fs l r _ _ _ pt hpt
          rw [List.length_append, HPL.out] at h5
          have h6 := HKM.out
          simp at h5 h6
          omega
        · simp at hpt
      have hVl : (xs.map (·.1)).length * volR l r + volR l r ≤ volR l ((q : Int) :: r) := by
        rw [List.length_map]
        have h5 : (xs.length + 1) * volR l r ≤ nxP (rBx l (q : Int)) * nyP (rBx l (q : Int)) * volR l r := Nat.mul_le_mul_right _ hlen
        rw [Nat.succ_mul] at h5
        exact h5
      have hFl := flatMap_length_le (f := stepS fs l (q : Int) r (mine.drop k) H pre) (V := volR l r) (xs.map (·.1)) (fun y _ => stepS_length ..)
      have hih := HIH.out (k + 1) w11 _ (H.set q (atP x.1)) (P2.set k x.1) (pre ++ [x.1]) (by have := HKM.out; simp at this; omega) HR.out
        (by rw [take_set_succ _ _ _ (by omega), H22.out]) (by rw [List.length_append, HPL.out]; rfl) (fun j hj => by rw [rBx_set (HS.out.pin j (hrm j hj)).1 (fun e => hqr (by rw [← e]; exact hj))]; exact HHH.out j (by simp [hj])) HAV.out K11.out
        (by rw [see_cnt]; have := HC0.out; omega) (by rw [see_cnt]; have := HC1.out; omega) (EOk_fold _ HE.out hek)
        (fun p hp => (List.mem_append.1 hp).elim (fun h => HPB.out p h) (fun h => by rw [List.mem_singleton.1 h]; exact inB_big HVB.out x.2))
      clear hVl hFl hP2l
      have HIC := Aside0.mk hih
      clear hih
      gi_wp2
      refine ⟨trivial, CallsIn.mono (CallsIn.inRound li (callsIn_wide.2 (show Calls _ _ _ _ _ from HIC.out))) ?_⟩
      rintro e w12 ⟨rfl, KO12, P3, hp3, K12⟩
      gi_wp2
      have KOx := KO11.out.trans KO12
      refine ⟨KO.keeps HS.out K2.out KOx _, ⟨KOx.1, KOx.2 bx hbo.out (Nat.lt_of_lt_of_le hbx1 KO2.out.1)⟩, H.set q (atP x.1), fun b => List.set_set .., P3, ?_, ?_, KO2.out.trans KOx⟩
      · have h6 := congrArg (List.take k) hp3
        rw [List.take_take, Nat.min_eq_left (by omega), List.take_append_of_le_length (by rw [HPL.out]; exact Nat.le_refl _), show pre.take k = pre from List.take_of_length_le (by rw [HPL.out]; exact Nat.le_refl _)] at h6
        exact h6
      · have hst : stepS fs l (q : Int) r (mine.drop k) H pre x.1 = solsP fs l r (mine.drop (k + 1)) (H.set q (atP x.1)) (pre ++ [x.1]) := by
          unfold stepS
          rw [headD_drop, Int.toNat_natCast, if_pos HBD.out, List.tail_drop]
        rw [List.unattach_append, List.flatMap_append, List.foldl_append]
        have hlast : (([x] : List { x : Pt // inB x (rBx l (q : Int)) }).unattach.flatMap (stepS fs l (q : Int) r (mine.drop k) H pre)) = solsP fs l r (mine.drop (k + 1)) (H.set q (atP x.1)) (pre ++ [x.1]) := by simp [hst]
        rw [hlast]
        exact K12
    · have HBD := Aside0.mk hbd
      have hbd2 : 0 ≤ badP fs (H.set q (atP x.1)) (rRow mine k) := by omega
      clear hbd
      gi_wp2
      refine ⟨KO.keeps HS.out K2.out KO11.out _, ⟨KO11.out.1, KO11.out.2 bx hbo.out (Nat.lt_of_lt_of_le hbx1 KO2.out.1)⟩, H.set q (atP x.1), fun b => List.set_set .., P2.set k x.1, by rw [take_set_self]; exact H22.out, ?_, KO2.out.trans KO11.out⟩
      have hst : stepS fs l (q : Int) r (mine.drop k) H pre x.1 = [] := by
        unfold stepS
        rw [headD_drop, Int.toNat_natCast, if_neg (by have := HBD.out; omega)]
      rw [List.unattach_append, List.flatMap_append, List.foldl_append]
      have hlast : (([x] : List { x : Pt // inB x (rBx l (q : Int)) }).unattach.flatMap (stepS fs l (q : Int) r (mine.drop k) H pre)) = [] := by simp [hst]
      rw [hlast, List.foldl_nil]
      exact K11.out
  case done =>
    rintro D xs W2 hD hS ⟨H2, P2, h1, h2, h3, h4⟩ hK
    have K2 := Aside0.mk h3
    have KO2 := Aside0.mk h4
    have H12 := Aside0.mk h1
    have H22 := Aside0.mk h2
    have HXS := Aside0.mk hS
    have HKD := Aside0.mk hK
    have HDD := Aside0.mk hD
    have hkl2 := Nat.lt_of_lt_of_le hkl h4.1
    have ck2 := (World.cell?_of_block (a := ⟨W.heap.size, 0, none⟩) (h4.2 _ hko.out hkl)).trans ck
    clear h1 h2 h3 h4 hS hK hD
    have p0 := K2.out.p0
    have p3 := K2.out.p3
    have p4 := K2.out.p4
    have l0 : c.bPart < W2.heap.size := cell_lt p0
    have l3 : c.bL < W2.heap.size := cell_lt p3
    have l4 : c.bHr < W2.heap.size := cell_lt p4
    obtain ⟨ba, oa, hpa, hpb, e0⟩ := at_Int (Kd.C_below HS.out.hpart K2.out.B) (k : Int) (by omega) (by omega)
    obtain ⟨bl, ol, hla, hlb, x0, x1, x2, x3⟩ := at_Bx (Kd.C_below HS.out.hl K2.out.B) (q : Int) (by omega) (by omega)
    rw [hi1] at e0
    rw [hpa] at p0
    rw [hla] at p3
    simp only [Int.toNat_natCast] at e0 x0 x1 x2 x3
    have fH := (R_own1 K2.out.hr HS.out.n1).1
    obtain ⟨_, _, he, _, y0, y1, y2, y3⟩ := at_Bx (row_C K2.out.hr).2 (q : Int) (by omega) (by omega)
    cases he
    simp only [Int.toNat_natCast, Nat.zero_add] at y0 y1 y2 y3
    have n0 := HS.out.o0.2.2.1
    have n3 := HS.out.o3.2.2.1
    have n4 := HS.out.o4.2.2.1
    have nk := hko.out.2.2.1
    have na : ba ≠ c.HR := by
      obtain ⟨_, _, he, hlt, _⟩ := at_Int HS.out.hpart (k : Int) (by omega) (by omega)
      rw [hpa] at he
      cases he
      have h5 := HS.out.lH
      have h6 := HS.out.base
      omega
    have nl : bl ≠ c.HR := by
      obtain ⟨_, _, he, hlt, _⟩ := at_Bx HS.out.hl (q : Int) (by omega) (by omega)
      rw [hla] at he
      cases he
      have h5 := HS.out.lH
      have h6 := HS.out.base
      omega
    obtain ⟨hr9, hg9⟩ := R_setBx K2.out.hr q (by omega) (rBx l (q : Int))
    go_wp2_with fail
    go_region_held3 (fun w' => (∀ b o, b < W2.heap.size → b ≠ c.HR → w'.cell? ⟨b, o, none⟩ = W2.cell? ⟨b, o, none⟩) ∧ W2.heap.size ≤ w'.heap.size) (first | exact ⟨fun _ _ _ _ => rfl, Nat.le_refl _⟩ | exact ⟨fun b o hl hne => World.cell?_of_block (a := ⟨b, o, none⟩) (hg9.block b hl (fun e => hne (by injection e))), hg9.size⟩) ((first | fail))
    have hH2 : H2.set q (rBx l (q : Int)) = H := by
      rw [H12.out, ← HHH.out (q : Int) (by simp)]
      exact set_get_self (by have h5 := congrArg List.length (H12.out ⟨⟨0, 0⟩, ⟨0, 0⟩⟩); simp at h5; have := (row_C K2.out.hr).1; omega)
    have K9 := LK.here HS.out K2.out hg9 hr9
    rw [hH2, HXS.out, ← solsP_cons] at K9
    have KO9 := (HO7.out.trans KO2.out).trans (KO.grown hg9 (fun h => h.2.2.1 rfl))
    have hKD := (hg9.block D (Array.getElem?_eq_some_iff.1 HKD.out).1 (fun e => by
      injection e with e
      obtain ⟨o, ho, hc⟩ := cells_of_cell y0
      rw [e] at HKD
      rw [show W2.heap[c.HR]? = some o from ho] at HKD
      have h5 := HKD.out
      cases h5
      cases hc)).trans HKD.out
    have K9d := K9.below HS.out (below_drew (Below.refl _ _))
    have KO9d := KO9.trans (KO.below (c := c) (below_drew (Below.refl _ _)))
    refine ⟨by simp, .inl ⟨_, _, rfl, run_takeDeferred hKD, ?_⟩⟩
    refine ⟨.tuple #[], results_none rfl _ _ _, rfl, ?_, P2, H22.out, ?_⟩
    · exact KO9d.other (row := some D) (grownBy_putObj' _ D (.deferred none)) (fun r e => by cases e; have := HDD.out; omega)
    · exact K9d.other (row := some D) HS.out (grownBy_putObj' _ D (.deferred none)) (fun r e => by cases e; exact ⟨_, hKD, rfl⟩) (fun r e => by cases e; have := HDD.out; have := HK7.out.B.size; omega)

end Go.Proofs.Ytkkimlicabbooaa

/-
  look of package search: choose, whole; what is seen, as it lies in memory.
-/
namespace Go.Proofs.Ytkkimlicabbooaa
open Go.RowKit Go.Proofs.YtkkimlicabbooaaW.PrintWords Bs
set_option linter.unusedVariables false
set_option linter.unusedSimpArgs false

theorem choose_c (c : Cp) (part : List Int) (fs : List Fct) (l : List Bx) (mine : List (List Int)) (w0 : World) (s : LS c part fs l mine w0) : ∀ r, ChooseC c fs l mine w0 part r
  | [] => choose_nil c part fs l mine w0 s
  | i :: r => choose_cons c part fs l mine w0 s i r (choose_c c part fs l mine w0 s r)

def endsL (st : See) (m : Nat) : List E4 := (List.range m).map fun i => (st.ends (4 * i), st.ends (4 * i + 1), st.ends (4 * i + 2), st.ends (4 * i + 3))
theorem drop_take4 {f : Nat → Value} {m j : Nat} (h : j < m) : (((List.range (4 * m)).map f).drop (j * 4)).take 4 = [f (4 * j), f (4 * j + 1), f (4 * j + 2), f (4 * j + 3)] := by
  refine List.ext_getElem (by simp; omega) (fun i h1 h2 => ?_)
  have h3 : i < 4 := by simpa using h2
  rw [List.getElem_take, List.getElem_drop, List.getElem_map, List.getElem_range]
  have e : j * 4 + i = 4 * j + i := by omega
  rw [e]
  rcases i with _ | _ | _ | _ | i <;> first | rfl | omega
/-- What is seen, made whole. -/
theorem LK.seen {c : Cp} {part : List Int} {fs : List Fct} {l : List Bx} {mine : List (List Int)} {w0 W : World} {st : See} {H : List Bx} {P : List Pt} (s : LS c part fs l mine w0) (h : LK c mine w0 W st H P) (he : c.cEn = c.m) {pb : Nat} (hb : pb ≤ c.base) (hp : kInt.R 3 W pb (fun _ => True) (.slice c.aPart c.m c.cPart) part) :
    kSeen.M W pb (fun _ => True) ⟨part, st.cnt, endsL st c.m, st.one⟩ [.pointer (some ⟨c.S, 0, none⟩)] := by
  obtain ⟨v3, h3, hR3⟩ := h.s3
  have hc : ∀ j, ∃ v, j < 4 * c.m → W.cell? ⟨c.EN, j, none⟩ = some v ∧ kPt.R 49 W c.base c.out v (st.ends j) := by
    intro j
    by_cases hj : j < 4 * c.m
    · obtain ⟨v, a, b, _⟩ := h.en j hj
      exact ⟨v, fun _ => ⟨a, b⟩⟩
    · exact ⟨undef, fun h => absurd h hj⟩
  obtain ⟨f, hf⟩ := Classical.axiomOfChoice hc
  have hS : W.heap[c.S]? = some (.cells [.slice c.aPart c.m c.cPart, .int .i64 st.cnt, .slice (some ⟨c.EN, 0, none⟩) c.m c.cEn, v3].toArray 78 (0, 0)) := by
    refine h.tS.cells rfl (fun i u hu => ?_)
    rcases i with _ | _ | _ | _ | i
    · obtain rfl : _ = u := by simpa using hu
      exact h.s0
    · obtain rfl : _ = u := by simpa using hu
      exact h.s1
    · obtain rfl : _ = u := by simpa using hu
      exact h.s2
    · obtain rfl : _ = u := by simpa using hu
      exact h3
    · simp at hu
  have hE : W.heap[c.EN]? = some (.cells ((List.range (4 * c.m)).map f).toArray 105 (0, 0)) := by
    refine h.tE.cells (by rw [List.length_map, List.length_range, he]; omega) (fun i u hu => ?_)
    obtain ⟨hi, rfl⟩ := List.getElem?_eq_some_iff.1 hu
    have hi' : i < 4 * c.m := by simpa using hi
    simpa using (hf i hi').1
  have hm := s.m12
  refine ⟨c.S, _, rfl, trivial, by have := s.lS; omega, hS, ⟨[.slice c.aPart c.m c.cPart], _, rfl, ⟨_, rfl, hp⟩, ⟨[.int .i64 st.cnt], _, rfl, rfl, ⟨[.slice (some ⟨c.EN, 0, none⟩) c.m c.cEn], [v3], rfl, ⟨_, rfl, ?_⟩, ⟨v3, rfl, Kd.R_lower (Kd.R_mono hR3 (fun _ _ => trivial)) hb⟩⟩⟩⟩⟩
  refine ⟨fun _ _ => trivial, (List.range (4 * c.m)).map f, ⟨by simp [endsL, kE4, Kd.pair, Kd.slice]; omega, .inr ⟨c.EN, c.m, ((List.range (4 * c.m)).map f).toArray, by simp [endsL, he], by have := s.lE; omega, hE, by simp [endsL], by unfold maxLen; omega, by simp [kE4, Kd.pair, Kd.slice]; omega, by
    simp [endsL, kE4, Kd.pair, Kd.slice]
    rw [List.take_of_length_le (by simp; omega)]⟩⟩, ⟨by simp [endsL, kE4, Kd.pair, Kd.slice]; omega, fun j p hj => ?_⟩⟩
  obtain ⟨hj1, rfl⟩ := List.getElem?_eq_some_iff.1 hj
  have hjm : j < c.m := by simpa [endsL] using hj1
  show kE4.M _ _ _ _ ((((List.range (4 * c.m)).map f).drop (j * 4)).take 4)
  rw [drop_take4 hjm]
  have hk : ∀ i, i < 4 * c.m → kPts.M W pb (fun k => True ∧ some k ≠ (Value.slice (some ⟨c.EN, 0, none⟩) c.m c.cEn).ownBlock) (st.ends i) [f i] := fun i hi =>
    ⟨f i, rfl, Kd.R_lower (Kd.R_mono (hf i hi).2 (fun k ho => ⟨trivial, fun e => ho.2.1 (by simpa [Value.ownBlock] using e)⟩)) hb⟩
  have he4 : (endsL st c.m)[j] = (st.ends (4 * j), st.ends (4 * j + 1), st.ends (4 * j + 2), st.ends (4 * j + 3)) := by simp [endsL]
  rw [he4]
  exact ⟨[f (4 * j)], _, rfl, hk _ (by omega), ⟨[f (4 * j + 1)], _, rfl, hk _ (by omega), ⟨[f (4 * j + 2)], [f (4 * j + 3)], rfl, hk _ (by omega), hk _ (by omega)⟩⟩⟩

theorem min_ok {fs : List Fct} {part : List Int} (k : Nat) : ∀ i ∈ rRow (mineP fs part) k, 0 ≤ i ∧ i < (fs.length : Int) := by
  intro i hi
  unfold rRow mineP at hi
  rw [List.getD_eq_getElem?_getD, List.getElem?_map] at hi
  cases h : (allP part.length)[k]? with
  | none => rw [h] at hi; simp at hi
  | some x =>
    rw [h] at hi
    exact allP_get (List.mem_filter.1 (show i ∈ mineRow fs part x from hi)).1
end Go.Proofs.Ytkkimlicabbooaa

/-
  look of package search: what it lays before it goes through the points.
-/
namespace Go.Proofs.Ytkkimlicabbooaa
open Go.RowKit Go.Proofs.YtkkimlicabbooaaW.PrintWords Bs
attribute [local go_sem] Later.cell? Later.frozen?
set_option linter.unusedVariables false
set_option linter.unusedSimpArgs false

theorem infoE4 : (Try.prog.info? 105).map (fun i => (i.zero, i.size, i.bytes)) = some (some (.agg #[.slice none 0 0, .slice none 0 0, .slice none 0 0, .slice none 0 0]), 4, 96) := by kernel_rfl
def nilCells (n : Nat) : Array Value := Array.replicate n (.slice none 0 0)
theorem mk_ends (m : Nat) (hm : m ≤ 12) (W : World) : (Instr.makeSlice 76 (.int .i64 (m : Int)) (.int .i64 (m : Int))).run Try.prog W = .ok (.slice (some ⟨W.heap.size, 0, none⟩) m m) (W.alloc (.cells (nilCells (m * 4)) 105)) := by
  obtain ⟨i0, hi, hzz⟩ := Option.map_eq_some_iff.1 infoE4
  simp only [Prod.mk.injEq] at hzz
  obtain ⟨hz0, hz1, hz2⟩ := hzz
  have hr := run_make (P := Try.prog) W 76 105 i0 _ Try.underlying76 hi hz0 .i64 .i64 (m : Int) (m : Int) (by omega) (by omega) (by rw [hz2]; omega) (by omega)
  simp only [Int.toNat_natCast] at hr
  rw [hz1] at hr
  have hc : madeCells (Value.agg #[.slice none 0 0, .slice none 0 0, .slice none 0 0, .slice none 0 0]).cells (m * 4) = nilCells (m * 4) := by
    apply Array.ext
    · simp [madeCells, nilCells]
    · intro i h1 h2
      have h3 : i % 4 = 0 ∨ i % 4 = 1 ∨ i % 4 = 2 ∨ i % 4 = 3 := by omega
      rcases h3 with h | h | h | h <;> simp [madeCells, nilCells, Value.cells, h]
  rw [hc] at hr
  exact hr

/-- What the first statement of look leaves: the record S, the ends EN, and the block that names S. -/
structure Look1 (W : World) (A : Option Addr) (m c : Nat) (bS S EN : Nat) (W1 : World) : Prop where
  p : W1.cell? ⟨bS, 0, none⟩ = some (.pointer (some ⟨S, 0, none⟩))
  g0 : W.heap.size ≤ bS
  g1 : W.heap.size ≤ S
  g2 : W.heap.size ≤ EN
  d0 : bS ≠ S
  d1 : bS ≠ EN
  d2 : S ≠ EN
  hS : W1.heap[S]? = some (.cells #[.slice A m c, .int .i64 0, .slice (some ⟨EN, 0, none⟩) m m, .slice none 0 0] 78 (0, 0))
  hE : W1.heap[EN]? = some (.cells (nilCells (m * 4)) 105 (0, 0))
  B : Below W.heap.size W W1

def Look1P (W : World) (A : Option Addr) (m c : Nat) (p s q : Value) (W1 : World) : Prop := ∃ bS S EN, p = .pointer (some ⟨bS, 0, none⟩) ∧ s = .slice (some ⟨EN, 0, none⟩) m m ∧ q = .pointer (some ⟨S, 0, none⟩) ∧ Look1 W A m c bS S EN W1

theorem heap_alloc_at (W : World) (o : Obj) {k : Nat} (h : k = W.heap.size) : (W.alloc o).heap[k]? = some o := by subst h; exact heap_alloc_new W o
theorem heap_alloc_lt (W : World) (o : Obj) {k : Nat} (h : k < W.heap.size) : (W.alloc o).heap[k]? = W.heap[k]? := (below_alloc (Below.refl W.heap.size W) o).block k h
theorem heap_set_ne (W : World) (a : Addr) (u : Value) {k : Nat} (h : k ≠ a.block) : (W.setCell a u).heap[k]? = W.heap[k]? := Below.heap_setCell W a u k h
theorem heap_drew (W : World) (k : Nat) : W.drew.heap[k]? = W.heap[k]? := rfl
theorem size_drew (W : World) : W.drew.heap.size = W.heap.size := rfl

theorem frozen_ty {W : World} {b t n : Nat} (h : Ty W b t n) (o : Nat) : W.frozen? ⟨b, o, none⟩ = false := by
  obtain ⟨c, h1, _⟩ := h
  simp [World.frozen?, h1]
theorem max_l {a b : Int} (h : b ≤ a) : max a b = a := by omega
theorem max_r {a b : Int} (h : a ≤ b) : max a b = b := by omega

/-- A row of structures that lead nowhere is of its own block alone. -/
theorem ok_flat {α : Type} {s : Nat} {enc : α → List Value} {hl : ∀ x, (enc x).length = s} {h1 : ∀ x, ∀ u ∈ enc x, u.oneCell' = true} {e base g n cap : Nat} {W : World} {xs : List α} (h : (flat s enc hl h1).R e W base (fun _ => True) (.slice (some ⟨g, 0, none⟩) n cap) xs) : (flat s enc hl h1).R e W base (fun k => k = g) (.slice (some ⟨g, 0, none⟩) n cap) xs :=
  ⟨fun k hk => by simp [Value.ownBlock] at hk; exact hk.symm, h.2.imp_ (fun _ _ hp => hp)⟩
/-- What look has laid: the record S, the ends EN, the boxes HR, each named by a block. -/
structure LookW (w W : World) (aPart aL aF : Option Addr) (m n nf cPart cL cF cHr : Nat) (l : List Bx) (bS S EN bHr HR : Nat) : Prop where
  B : Below w.heap.size w W
  p0 : W.cell? ⟨w.heap.size + 1 + 1, 0, none⟩ = some (.slice aPart m cPart)
  p1 : W.cell? ⟨bS, 0, none⟩ = some (.pointer (some ⟨S, 0, none⟩))
  p3 : W.cell? ⟨w.heap.size + 1, 0, none⟩ = some (.slice aL n cL)
  p4 : W.cell? ⟨bHr, 0, none⟩ = some (.slice (some ⟨HR, 0, none⟩) n cHr)
  p5 : W.cell? ⟨w.heap.size, 1, none⟩ = some (.slice aF nf cF)
  hS : W.heap[S]? = some (.cells #[.slice aPart m cPart, .int .i64 0, .slice (some ⟨EN, 0, none⟩) m m, .slice none 0 0] 78 (0, 0))
  hE : W.heap[EN]? = some (.cells (nilCells (m * 4)) 105 (0, 0))
  hr : kBx.R 42 W w.heap.size (fun _ => True) (.slice (some ⟨HR, 0, none⟩) n cHr) l
  o1 : w.heap.size + 1 + 1 < W.heap.size
  o2 : w.heap.size + 1 + 1 < bS
  o3 : w.heap.size + 1 + 1 < S
  o4 : w.heap.size + 1 + 1 < EN
  o5 : bS < HR
  o6 : S < HR
  o7 : EN < HR
  o8 : HR < bHr
  o9 : bHr < W.heap.size
  d0 : bS ≠ S
  d1 : bS ≠ EN
  d2 : S ≠ EN

def mkCp (w W0 w5 : World) (aPart aL aF aMn : Option Addr) (m n nf cPart cPt cL cF cHr cMn bS S EN bHr HR PT : Nat) : Cp :=
  ⟨w.heap.size + 1 + 1, bS, w5.heap.size, w.heap.size + 1, bHr, w.heap.size, W0.heap.size, w5.heap.size + 1, S, EN, HR, PT, m, n, nf, cPart, cPt, cL, cHr, cF, cMn, m, aPart, aL, aF, aMn, w.heap.size⟩
theorem nil_at {k j : Nat} (h : j < k) : (nilCells k)[j]? = some (.slice none 0 0) := by simp [nilCells, h]
/-- What choose finds when it is called first. -/
theorem look_start {w W0 w4 w5 : World} {aPart aL aF aMn : Option Addr} {m n nf cPart cPt cL cF cHr cMn bS S EN bHr HR PT T : Nat} {l : List Bx} {fs : List Fct} {part : List Int} (HX : LookW w W0 aPart aL aF m n nf cPart cL cF cHr l bS S EN bHr HR)
    (h2 : kFct.C w aF nf fs) (hL : kBx.C w aL n l) (hp : kInt.C w aPart m part) (hf : AllFormed fs n) (hv : AllValid l) (hnd : part.Nodup) (hpin : ∀ i ∈ part, 0 ≤ i ∧ i < (n : Int)) (hm : m ≤ 12) (hm2 : 2 ≤ m) (hn0 : 0 < n) (hn : n ≤ 12) (hnf : nf ≤ 60)
    (HB : Below W0.heap.size W0 w4) (cm : w4.cell? ⟨W0.heap.size, 0, none⟩ = some (.slice aMn m cMn)) (HM : kRows.R 52 w4 W0.heap.size (fun j => j ≠ W0.heap.size) (.slice aMn m cMn) (mineP fs part)) (hb5 : Below w4.heap.size w4 w5) (gb5 : w4.heap.size ≤ PT) (gl5 : PT < w5.heap.size)
    (HV5 : kPt.R 49 w5 w4.heap.size (fun _ => True) (.slice (some ⟨PT, 0, none⟩) m cPt) (List.replicate m ⟨0, 0⟩)) :
    LS (mkCp w W0 w5 aPart aL aF aMn m n nf cPart cPt cL cF cHr cMn bS S EN bHr HR PT) part fs l (mineP fs part) w ∧
    LK (mkCp w W0 w5 aPart aL aF aMn m n nf cPart cPt cL cF cHr cMn bS S EN bHr HR PT) (mineP fs part) w
      ((w5.alloc (.cells #[.slice (some ⟨PT, 0, none⟩) m cPt] 57)).alloc (.cells #[.func (.func 75) #[] (mkCp w W0 w5 aPart aL aF aMn m n nf cPart cPt cL cF cHr cMn bS S EN bHr HR PT).lb] T)) see0 l (List.replicate m ⟨0, 0⟩) := by
  have o1 := HX.o1; have o2 := HX.o2; have o3 := HX.o3; have o4 := HX.o4; have o5 := HX.o5; have o6 := HX.o6; have o7 := HX.o7; have o8 := HX.o8; have o9 := HX.o9
  have d0 := HX.d0; have d1 := HX.d1; have d2 := HX.d2
  have s4 : W0.heap.size < w4.heap.size := cell_lt cm
  have s5 := hb5.size
  generalize hW : ((w5.alloc _).alloc _ : World) = W6
  have hb6 : Below w5.heap.size w5 W6 := by subst hW; exact (by repeat (first | (with_reducible exact Below.refl _ _) | (with_reducible exact HB.out) | (with_reducible assumption) | (with_reducible apply below_alloc) | (with_reducible apply below_drew) | (with_reducible apply pw_below_drewN) | (with_reducible refine bstep' ?_ (by assumption)) | ((with_reducible refine Below.setCell ?_ ?_ _); rotate_left; (first | (dsimp only; omega) | (simp; done) | (simp; omega) | omega))))
  have hb46 : Below w4.heap.size w4 W6 := bstep' hb5 hb6
  have hb06 : Below W0.heap.size W0 W6 := bstep' HB hb46
  have e6 : W6.cell? ⟨w5.heap.size, 0, none⟩ = some (.slice (some ⟨PT, 0, none⟩) m cPt) := by subst hW; go_simp
  have e7 : W6.cell? ⟨w5.heap.size + 1, 0, none⟩ = some (.func (.func 75) #[] (mkCp w W0 w5 aPart aL aF aMn m n nf cPart cPt cL cF cHr cMn bS S EN bHr HR PT).lb) := by subst hW; go_simp
  have hS6 := (hb06.block S (by omega)).trans HX.hS
  have hE6 := (hb06.block EN (by omega)).trans HX.hE
  refine ⟨⟨hp, hL, h2, rfl, by dsimp only [mkCp]; omega, by dsimp only [mkCp]; omega, by dsimp only [mkCp]; omega, by dsimp only [mkCp]; omega, d2, by dsimp only [mkCp]; omega, by dsimp only [mkCp]; omega, by dsimp only [mkCp]; omega, by dsimp only [mkCp]; omega, by dsimp only [mkCp]; omega,
    by dsimp only [Cp.out, mkCp]; omega, by dsimp only [Cp.out, mkCp]; omega, by dsimp only [Cp.out, mkCp]; omega, by dsimp only [Cp.out, mkCp]; omega, by dsimp only [Cp.out, mkCp]; omega, by dsimp only [Cp.out, mkCp]; omega, by dsimp only [Cp.out, mkCp]; omega, by dsimp only [Cp.out, mkCp]; omega,
    hf, hv, hnd, hpin, fun k i hi => by have := min_ok k i hi; rw [h2.1] at this; exact this, hm2, hn0, hm, hn, by dsimp only [mkCp]; omega⟩, ?_⟩
  exact ⟨HX.B.trans (hb06.mono (by omega)), (hb06.cell (by dsimp only [mkCp]; omega)).trans HX.p0, (hb06.cell (by dsimp only [mkCp]; omega)).trans HX.p1, e6, (hb06.cell (by dsimp only [mkCp]; omega)).trans HX.p3, (hb06.cell (by dsimp only [mkCp]; omega)).trans HX.p4,
    (hb06.cell (by dsimp only [mkCp]; omega)).trans HX.p5, (hb46.cell (by dsimp only [mkCp]; omega)).trans cm, e7,
    by simp [World.cell?, mkCp, hS6], by simp [World.cell?, mkCp, hS6, see0], by simp [World.cell?, mkCp, hS6], ⟨.slice none 0 0, by simp [World.cell?, mkCp, hS6], Kd.R_nil _ _ _ _ _⟩,
    fun o => by simp [World.frozen?, mkCp, hS6], fun o => by simp [World.frozen?, mkCp, hE6],
    fun j hj => ⟨.slice none 0 0, by
      have hj' : j < m * 4 := by dsimp only [mkCp] at hj; omega
      have h := nil_at hj'
      simpa [World.cell?, mkCp, hE6] using h, Kd.R_nil _ _ _ _ _, fun _ => rfl⟩,
    ok_flat (Kd.R_below HX.hr hb06), ok_flat (Kd.R_lower (Kd.R_below HV5 hb6) (show w.heap.size ≤ w4.heap.size by omega)),
    Kd.R_lower (Kd.R_mono (Kd.R_below (Kd.R_bound HM) hb46) (fun k hk => by
      obtain ⟨_, h1, h2, _⟩ := hk
      dsimp only [Cp.out, mkCp]
      omega)) (show w.heap.size ≤ W0.heap.size by omega),
    ⟨_, hS6, rfl⟩, ⟨_, hE6, by simp [nilCells, mkCp]⟩⟩

end Go.Proofs.Ytkkimlicabbooaa

/-
  look of package search, walked for a part of two points or more.
-/
namespace Go.Proofs.Ytkkimlicabbooaa
open Go.RowKit Go.Proofs.YtkkimlicabbooaaW.PrintWords Bs
attribute [local go_sem] Later.cell? Later.frozen?
set_option linter.unusedVariables false
set_option linter.unusedSimpArgs false

set_option maxHeartbeats 3200000 in
set_option maxRecDepth 100000 in
theorem look_many (A1 A2 aL aPart : Option Addr) (n nf c1 c2 cL m cPart pb : Nat) (w : World) (fs : List Fct) (l : List Bx) (part : List Int) (h2 : kFct.C w A2 nf fs) (hL : kBx.C w aL n l) (hp : kInt.C w aPart m part) (hpR : kInt.R 3 w pb (fun _ => True) (.slice aPart m cPart) part) (hpb : pb ≤ w.heap.size)
    (hf : AllFormed fs n) (hv : AllValid l) (hnd : part.Nodup) (hpin : ∀ i ∈ part, 0 ≤ i ∧ i < (n : Int)) (hvol : (volR l part : Int) ≤ 9000000000000000000) (hm : m ≤ 12) (hm2 : 2 ≤ m) (hn0 : 0 < n) (hn : n ≤ 12) (hnf : nf ≤ 60) :
    Calls Try.prog 66 #[.agg #[.slice A1 n c1, .slice A2 nf c2], .slice aL n cL, .slice aPart m cPart] w fun e w' => ∃ v, e = .returned v ∧ kSeen.M w' pb (fun _ => True) (seenP fs l part) [v] ∧ Below w.heap.size w w' := by
  have HPR := Aside0.mk hpR
  have HF := Aside0.mk hf
  have HV := Aside0.mk hv
  have HND := Aside0.mk hnd
  have HPIN := Aside0.mk hpin
  have HVOL := Aside0.mk hvol
  clear hpR hf hv hnd hpin hvol
  have hmk := mk_ends m hm
  have hm1 : ((m : Int) == 1) = false := by simp; omega
  have H2 := Aside0.mk h2
  have HL := Aside0.mk hL
  have HP := Aside0.mk hp
  have HLL := Aside0.mk hL.1
  have HLP := Aside0.mk hp.1
  have HLF := Aside0.mk h2.1
  clear h2 hL hp
  go_enter Try.func66, Try.ntmps66
  go_wp2_with fail
  generalize hW : ((w.alloc _).alloc _).alloc _ = W
  have q0 : W.heap.size = w.heap.size + 1 + 1 + 1 := by subst hW; simp
  have e2 : W.cell? ⟨w.heap.size + 1 + 1, 0, none⟩ = some (.slice aPart m cPart) := by subst hW; go_simp
  have e1 : W.cell? ⟨w.heap.size + 1, 0, none⟩ = some (.slice aL n cL) := by subst hW; go_simp
  have e0 : W.cell? ⟨w.heap.size, 0, none⟩ = some (.slice A1 n c1) := by subst hW; go_simp
  have e0' : W.cell? ⟨w.heap.size, 1, none⟩ = some (.slice A2 nf c2) := by subst hW; go_simp
  have HBW := Aside0.mk (show Below w.heap.size w W by subst hW; exact (by repeat (first | (with_reducible exact Below.refl _ _) | (with_reducible exact HB.out) | (with_reducible assumption) | (with_reducible apply below_alloc) | (with_reducible apply below_drew) | (with_reducible apply pw_below_drewN) | (with_reducible refine bstep' ?_ (by assumption)) | ((with_reducible refine Below.setCell ?_ ?_ _); rotate_left; (first | (dsimp only; omega) | (simp; done) | (simp; omega) | omega)))))
  clear hW
  go_cut [7, 21, 23] (fun p s q W1 => Look1P W aPart m cPart p s q W1)
  case first =>
    go_region_held3 (fun w' => (∀ b o, b < W.heap.size → w'.cell? ⟨b, o, none⟩ = W.cell? ⟨b, o, none⟩) ∧ (∀ b o, b < W.heap.size → w'.frozen? ⟨b, o, none⟩ = W.frozen? ⟨b, o, none⟩) ∧ Below W.heap.size W w') (first | (go_split_ands; exact S_of_below (by repeat (first | (with_reducible exact Below.refl _ _) | (with_reducible exact HB.out) | (with_reducible assumption) | (with_reducible apply below_alloc) | (with_reducible apply below_drew) | (with_reducible apply pw_below_drewN) | (with_reducible refine bstep' ?_ (by assumption)) | ((with_reducible refine Below.setCell ?_ ?_ _); rotate_left; (first | (dsimp only; omega) | (simp; done) | (simp; omega) | omega)))))) ((first | fail))
    all_goals (go_wp2_with fail)
    all_goals go_meet
    all_goals (case rel => exact ⟨_, _, _, rfl, rfl, rfl, ⟨by go_simp, (by first | (simp; done) | (simp; omega) | omega), (by first | (simp; done) | (simp; omega) | omega), (by first | (simp; done) | (simp; omega) | omega), (by first | (simp; done) | (simp; omega) | omega), (by first | (simp; done) | (simp; omega) | omega), (by first | (simp; done) | (simp; omega) | omega), (by repeat (first | (exact heap_alloc_at _ _ (by first | (simp; done) | (simp; omega) | omega)) | (refine (heap_alloc_lt _ _ (by first | (simp; done) | (simp; omega) | omega)).trans ?_) | (refine (heap_set_ne _ _ _ (by first | (simp; done) | (simp; omega) | omega)).trans ?_) | (refine (heap_drew _ _).trans ?_) | rfl)), (by repeat (first | (exact heap_alloc_at _ _ (by first | (simp; done) | (simp; omega) | omega)) | (refine (heap_alloc_lt _ _ (by first | (simp; done) | (simp; omega) | omega)).trans ?_) | (refine (heap_set_ne _ _ _ (by first | (simp; done) | (simp; omega) | omega)).trans ?_) | (refine (heap_drew _ _).trans ?_) | rfl)), (by repeat (first | (with_reducible exact Below.refl _ _) | (with_reducible exact HB.out) | (with_reducible assumption) | (with_reducible apply below_alloc) | (with_reducible apply below_drew) | (with_reducible apply pw_below_drewN) | (with_reducible refine bstep' ?_ (by assumption)) | ((with_reducible refine Below.setCell ?_ ?_ _); rotate_left; (first | (dsimp only; omega) | (simp; done) | (simp; omega) | omega))))⟩⟩)
  case rest =>
    clear hmk
    obtain ⟨bS, S, EN, rfl, rfl, rfl, H1⟩ := hcut
    have H1 := Aside0.mk H1
    have b0 := H1.out.g0
    have b1 := H1.out.g1
    have b2 := H1.out.g2
    have b3 := H1.out.d0
    have b4 := H1.out.d1
    have b5 := H1.out.d2
    have c0 := H1.out.p
    have b6 : bS < wc.heap.size := cell_lt c0
    have b7 : S < wc.heap.size := (Array.getElem?_eq_some_iff.1 H1.out.hS).1
    have b8 : EN < wc.heap.size := (Array.getElem?_eq_some_iff.1 H1.out.hE).1
    rw [← H1.out.B.cell (by dsimp only; omega)] at e0 e0' e1 e2
    have HBC := Aside0.mk (HBW.out.trans (H1.out.B.mono (by omega)))
    have b9 := H1.out.B.size
    go_wp2_with (first | (go_at_call 57; refine (cloneBx_c _ n _ l _ (Kd.C_below HL.out HBC.out) (by omega)).mono ?_; rintro e w3 ⟨v3, rfl, hv3, hb3⟩; obtain ⟨HR, cHr, rfl, b10, b11, _⟩ := Kd.R_form hv3 (by have := HLL.out; omega); rw [HLL.out]; rw [HLL.out] at hv3; have d2 := (hb3.cell (p := ⟨w.heap.size + 1 + 1, 0, none⟩) (by dsimp only; omega)).trans e2; have b12 : w.heap.size + 1 + 1 < w3.heap.size := (by have := hb3.size; omega); have b13 : w.heap.size + 1 + 1 < w3.heap.size + 1 := (by omega)))
    obtain ⟨W0, hW0⟩ : ∃ u, u = w3.alloc (.cells #[.slice (some ⟨HR, 0, none⟩) n cHr] 22) := ⟨_, rfl⟩
    have hz0 : W0.heap.size = w3.heap.size + 1 := by rw [hW0]; simp
    have k3 := hb3.size
    have HX := Aside0.mk (show LookW w W0 aPart aL A2 m n nf cPart cL c2 cHr l bS S EN w3.heap.size HR from by
      have hb0 : Below w3.heap.size w3 W0 := by rw [hW0]; exact (by repeat (first | (with_reducible exact Below.refl _ _) | (with_reducible exact HB.out) | (with_reducible assumption) | (with_reducible apply below_alloc) | (with_reducible apply below_drew) | (with_reducible apply pw_below_drewN) | (with_reducible refine bstep' ?_ (by assumption)) | ((with_reducible refine Below.setCell ?_ ?_ _); rotate_left; (first | (dsimp only; omega) | (simp; done) | (simp; omega) | omega))))
      have hbb : Below wc.heap.size wc W0 := bstep' hb3 hb0
      exact { B := bstep' HBC.out hbb
              p0 := (hbb.cell (by dsimp only; omega)).trans e2
              p1 := (hbb.cell b6).trans c0
              p3 := (hbb.cell (by dsimp only; omega)).trans e1
              p4 := by rw [hW0]; go_simp
              p5 := (hbb.cell (by dsimp only; omega)).trans e0'
              hS := (hbb.block _ b7).trans H1.out.hS
              hE := (hbb.block _ b8).trans H1.out.hE
              hr := Kd.R_below (Kd.R_lower hv3 (by omega)) hb0
              o1 := by omega, o2 := by omega, o3 := by omega, o4 := by omega, o5 := by omega, o6 := by omega, o7 := by omega, o8 := by omega, o9 := by omega, d0 := b3, d1 := b4, d2 := b5 })
    rw [← hW0, ← hz0]
    clear hW0 d2 b12 b13 hb3 hv3 e0 e0' e1 e2 c0 H1 HBC HBW b0 b1 b2 b3 b4 b5 b6 b7 b8 b9 b10 b11 q0 k3 hz0
    go_loopg [89] m (fun g cnt wr => ∃ (k : Nat) (v : Value), k + g = m ∧ cnt = .int .i64 k ∧ wr.cell? ⟨W0.heap.size, 0, none⟩ = some v ∧ Aside0 (kRows.R 52 wr W0.heap.size (fun j => j ≠ W0.heap.size) v ((allP k).map (mineRow fs part))) ∧ Aside0 (Below W0.heap.size W0 wr) ∧ Aside0 (Ty wr W0.heap.size 106 1))
    case atStart => exact ⟨0, .slice none 0 0, by omega, rfl, by go_simp, ⟨Kd.R_nil _ _ _ _ _⟩, ⟨below_alloc (Below.refl _ _) _⟩, ⟨⟨_, heap_alloc_new _ _, rfl⟩⟩⟩
    case round =>
      obtain ⟨k, v, hk, rfl, cm, HM, HB, HT⟩ := hrel
      obtain ⟨g1, rfl⟩ : ∃ u, u = gk := ⟨_, rfl⟩
      obtain ⟨w4, rfl⟩ : ∃ u, u = wr := ⟨_, rfl⟩
      by_cases hlt : k < m
      · have hw0 := HB.out.size
        have hx1 := HX.out.o1
        have d0 := (HB.out.cell (p := ⟨w.heap.size, 1, none⟩) (by dsimp only; omega)).trans HX.out.p5
        go_wp2_with fail
        go_loopg [12, 95] nf (fun g v cnt wr => ∃ i : Nat, i + g = nf ∧ cnt = .int .i64 i ∧ Aside0 (kInt.R 3 wr w4.heap.size (fun _ => True) v (mineTo fs part k i)) ∧ Aside0 (Below w4.heap.size w4 wr))
        case atStart => exact ⟨0, by omega, rfl, ⟨Kd.R_nil _ _ _ _ _⟩, ⟨Below.refl _ _⟩⟩
        case round =>
          obtain ⟨i, hi, rfl, HM2, HB2⟩ := hrel
          have HB3 := Aside0.mk (bstep' HB.out HB2.out)
          have hw1 := HB2.out.size
          by_cases hlt2 : i < nf
          · obtain ⟨b, off, rfl, hb, f0, f1, f2, f3, f4, f5, f6, f7, f8⟩ := at_Fct (Kd.C_below H2.out (HX.out.B.trans (HB3.out.mono HX.out.B.size))) (i : Int) (by omega) (by omega)
            simp only [Int.toNat_natCast] at f0 f1 f2 f3 f4 f5 f6 f7 f8
            have HLEN := Aside0.mk (mineTo_length fs part k i)
            have HMT := Aside0.mk (@mineTo_t fs part k i)
            have HMF := Aside0.mk (@mineTo_f fs part k i)
            generalize hF : rFct fs (i : Int) = F at *
            clear hF
            have HD2 := Aside0.mk ((HB3.out.cell (p := ⟨w.heap.size + 1 + 1, 0, none⟩) (by dsimp only; omega)).trans HX.out.p0)
            go_wp2_with fail
            generalize hw5 : wr.alloc _ = w5
            have q0 : w5.cell? ⟨wr.heap.size, 0, none⟩ = some (.int .i64 F.id) := by subst hw5; go_simp
            have q1 : w5.cell? ⟨wr.heap.size, 1, none⟩ = some (.int .i64 F.kind) := by subst hw5; go_simp
            have q3 : w5.cell? ⟨wr.heap.size, 3, none⟩ = some (.int .i64 F.a) := by subst hw5; go_simp
            have q4 : w5.cell? ⟨wr.heap.size, 4, none⟩ = some (.int .i64 F.b) := by subst hw5; go_simp
            have q5 : w5.cell? ⟨wr.heap.size, 5, none⟩ = some (.int .i64 F.c) := by subst hw5; go_simp
            have hb5 : Below wr.heap.size wr w5 := by subst hw5; exact (by repeat (first | (with_reducible exact Below.refl _ _) | (with_reducible exact HB.out) | (with_reducible assumption) | (with_reducible apply below_alloc) | (with_reducible apply below_drew) | (with_reducible apply pw_below_drewN) | (with_reducible refine bstep' ?_ (by assumption)) | ((with_reducible refine Below.setCell ?_ ?_ _); rotate_left; (first | (dsimp only; omega) | (simp; done) | (simp; omega) | omega))))
            have hz5 : w5.heap.size = wr.heap.size + 1 := by subst hw5; simp
            have d2 := (hb5.cell (p := ⟨w.heap.size + 1 + 1, 0, none⟩) (by dsimp only; omega)).trans HD2.out
            have HB5 := Aside0.mk hb5
            have HC5 := Aside0.mk (Kd.C_below (Kd.C_below HP.out (HX.out.B.trans (HB3.out.mono HX.out.B.size))) hb5)
            have y0 : w.heap.size + 1 + 1 < w5.heap.size := by omega
            have y1 : wr.heap.size < w5.heap.size := by omega
            obtain ⟨xb, hxb⟩ : ∃ u, u = wr.heap.size := ⟨_, rfl⟩
            have HXB := Aside0.mk hxb
            rw [← hxb] at q0 q1 q3 q4 q5 y1 ⊢
            clear hw5 f0 f1 f2 f3 f4 f5 f6 f7 f8 hb5 hz5 hxb d0 hb
            go_cut [15] (fun p W => p = .int .i64 (max (idxP part F.a) (idxP part F.b)) ∧ Aside0 (Below w5.heap.size w5 W))
            case first =>
              by_cases h1 : idxP part F.a < idxP part F.b
              · (refine wp_region_quiet (C := fun w' => ∃ t : Later _, w' = t.w) (by kernel_rfl) (by kernel_rfl) (IsLater.drew _) ?_; (repeat (first | go_big_quiet_step ((go_at_call 63; exact later_of (index_c _ m _ part _ _ (Kd.C_below HC5.out (Later.h _)) (by omega)))) | quiet_step ((go_at_call 63; exact later_of (index_c _ m _ part _ _ (Kd.C_below HC5.out (Later.h _)) (by omega)))))); refine wpQuiet_nil ?_; rintro _ ⟨tq, rfl⟩)
                have hq := tq.h
                go_wp2_with fail
                go_meet
                case rel => exact ⟨by rw [max_r (by omega)], ⟨hq⟩⟩
              · have h2 : idxP part F.b ≤ idxP part F.a := by omega
                (refine wp_region_quiet (C := fun w' => ∃ t : Later _, w' = t.w) (by kernel_rfl) (by kernel_rfl) (IsLater.drew _) ?_; (repeat (first | go_big_quiet_step ((go_at_call 63; exact later_of (index_c _ m _ part _ _ (Kd.C_below HC5.out (Later.h _)) (by omega)))) | quiet_step ((go_at_call 63; exact later_of (index_c _ m _ part _ _ (Kd.C_below HC5.out (Later.h _)) (by omega)))))); refine wpQuiet_nil ?_; rintro _ ⟨tq, rfl⟩)
                have hq := tq.h
                go_wp2_with fail
                go_meet
                case rel => exact ⟨by rw [max_l (by omega)], ⟨hq⟩⟩
            case rest =>
              obtain ⟨rfl, HB6⟩ := hcut
              have hb6 := HB6.out
              have q1' := (hb6.cell (p := ⟨xb, 1, none⟩) y1).trans q1
              have q3' := (hb6.cell (p := ⟨xb, 3, none⟩) y1).trans q3
              have q5' := (hb6.cell (p := ⟨xb, 5, none⟩) y1).trans q5
              have d2' := (hb6.cell (p := ⟨w.heap.size + 1 + 1, 0, none⟩) y0).trans d2
              have y0' : w.heap.size + 1 + 1 < wc.heap.size := by have := hb6.size; omega
              have y1' : xb < wc.heap.size := by have := hb6.size; omega
              have HC6 := Aside0.mk (Kd.C_below HC5.out hb6)
              clear q0 q1 q3 q4 q5 d2 y0 y1 hb6
              obtain ⟨w6, rfl⟩ : ∃ u, u = wc := ⟨_, rfl⟩
              obtain ⟨M, hM⟩ : ∃ x, x = max (idxP part F.a) (idxP part F.b) := ⟨_, rfl⟩
              rw [← hM]
              have HMX := Aside0.mk hM
              clear hM
              go_upto_if 111 with (fail)
              go_cut [15] (fun p W => p = .int .i64 (lastP part F) ∧ Aside0 (Below w6.heap.size w6 W))
              case first =>
                by_cases hk2 : F.kind = 2
                · have hkb : (F.kind == 2) = true := by simp [hk2]
                  have HK := Aside0.mk hk2
                  clear hk2
                  by_cases hx : M < idxP part F.c
                  · go_wp2_with (first | (go_at_call 63; refine (index_c _ m _ part _ _ HC6.out (by omega)).mono ?_; rintro e w7 ⟨rfl, hb7⟩))
                    go_meet
                    case rel => exact ⟨by unfold lastP; rw [if_pos HK.out, ← HMX.out, max_r (by omega)], ⟨hb7⟩⟩
                  · have hx2 : idxP part F.c ≤ M := by omega
                    go_wp2_with (first | (go_at_call 63; refine (index_c _ m _ part _ _ HC6.out (by omega)).mono ?_; rintro e w7 ⟨rfl, hb7⟩))
                    go_meet
                    case rel => exact ⟨by unfold lastP; rw [if_pos HK.out, ← HMX.out, max_l (by omega)], ⟨hb7⟩⟩
                · have hkb : (F.kind == 2) = false := by simp [hk2]
                  have HK := Aside0.mk hk2
                  clear hk2
                  go_wp2_with fail
                  go_meet
                  case rel => exact ⟨by unfold lastP; rw [if_neg HK.out, ← HMX.out], ⟨Below.refl _ _⟩⟩
              case rest =>
                obtain ⟨rfl, HB7⟩ := hcut
                have hb7 := HB7.out
                have q1 := (hb7.cell (p := ⟨xb, 1, none⟩) y1').trans q1'
                have q3 := (hb7.cell (p := ⟨xb, 3, none⟩) y1').trans q3'
                have d2 := (hb7.cell (p := ⟨w.heap.size + 1 + 1, 0, none⟩) y0').trans d2'
                have HC7 := Aside0.mk (Kd.C_below HC6.out hb7)
                have HB8 := Aside0.mk (show Below w4.heap.size w4 wc from bstep' (bstep' (bstep' HB2.out HB5.out) HB6.out) hb7)
                have HM8 := Aside0.mk (Kd.R_below (Kd.R_below (Kd.R_below HM2.out HB5.out) HB6.out) hb7)
                have hlen := HLEN.out
                clear q1' q3' q5' d2' y0' y1' hb7
                cases hB : (lastP part F == (k : Int)) with
                | false =>
                  have HF := Aside0.mk (HMF.out (by unfold mineB; rw [hB]; rfl))
                  have hBd : decide (lastP part F = (k : Int)) = false := by simpa using hB
                  go_wp2_with fail
                  go_roundg (gk - 1)
                  case measure => omega
                  case rel => exact ⟨i + 1, by omega, by go_num, ⟨by rw [HF.out]; exact HM8.out⟩, HB8⟩
                | true =>
                  cases hH : hasP part F.a with
                  | false =>
                    have HF := Aside0.mk (HMF.out (by unfold mineB; rw [hH, Bool.and_false]))
                    go_wp2_with (first | (go_at_call 48; refine (contains_c _ m _ part _ _ HC7.out (by omega)).mono ?_; rintro e w8 ⟨rfl, hb8⟩; rw [hH]))
                    go_roundg (gk - 1)
                    case measure => omega
                    case rel => exact ⟨i + 1, by omega, by go_num, ⟨by rw [HF.out]; exact Kd.R_below HM8.out hb8⟩, ⟨bstep' HB8.out hb8⟩⟩
                  | true =>
                    have HF := Aside0.mk (HMT.out (by unfold mineB; rw [hB, hH]; rfl))
                    go_wp2_with (first | (go_at_call 48; refine (contains_c _ m _ part _ _ HC7.out (by omega)).mono ?_; rintro e w8 ⟨rfl, hb8⟩; rw [hH]; have HM9 := Aside0.mk (Kd.R_below HM8.out hb8); have HB9 := Aside0.mk (bstep' HB8.out hb8); clear hb8) | (at_builtin; refine Kd.R_append kInt (w0 := w4) w4.heap.size rfl _ _ 52 3 (.int .i64 0) 8 rfl Try.underlying52 infoInt rfl (by decide) (by omega) u12 (mineTo fs part k i) (i : Int) [.int .i64 i] (fun _ => True) (fun _ => False) rfl rfl rfl (fun _ h => h.elim) (fun _ _ => trivial) HM9.out HB9.out ?aS ?aL ?_; (case aS => exact (Below.size HB9.out)); (case aL => omega); intro v1 w9 hv1 hb9 _ _))
                    go_roundg (gk - 1)
                    case measure => omega
                    case rel => exact ⟨i + 1, by omega, by go_num, ⟨by rw [HF.out]; exact hv1⟩, ⟨hb9⟩⟩
          · obtain rfl : gk = 0 := by omega
            obtain rfl : nf = i := by omega
            have HMR := Aside0.mk (show mineTo fs part k nf = mineRow fs part k by rw [mineRow_to, HLF.out])
            rw [HMR.out] at HM2
            have hlen : (mineRow fs part (k : Int)).length ≤ 60 := by rw [← HMR.out]; have := mineTo_length fs part k nf; omega
            obtain ⟨A10, c10, rfl, _, _⟩ := Kd.R_reads HM2.out
            have cm2 := (HB2.out.cell (p := ⟨W0.heap.size, 0, none⟩) (cell_lt cm)).trans cm
            have HT2 := Aside0.mk (HT.out.block (HB2.out.block _ (cell_lt cm)))
            have HM3 := Aside0.mk (Kd.R_below HM.out HB2.out)
            have hl0 : W0.heap.size < wr.heap.size := cell_lt cm2
            have HVB := Aside0.mk (fun j (hj : v.ownBlock = some j) => ((Kd.R_bound HM.out).1 j hj).2.2.1)
            have hlm : ((allP k).map (mineRow fs part)).length = k := by rw [List.length_map, allP_length]
            have HLM := Aside0.mk hlm
            have hl4 : W0.heap.size < w4.heap.size := cell_lt cm
            clear cm hlm
            have hfz := frozen_ty HT2.out 0
            go_wp2_with (first | (at_builtin; refine Kd.R_append kRows (w0 := W0) W0.heap.size rfl _ _ 106 52 (.slice none 0 0) 24 rfl Try.underlying106 infoRow rfl (by decide) (by omega) v ((allP k).map (mineRow fs part)) (mineRow fs part k) [.slice A10 (mineRow fs part k).length c10] (fun j => j ≠ W0.heap.size) (fun j => w4.heap.size ≤ j) rfl rfl ⟨_, rfl, Kd.R_lower (Kd.R_mono (Kd.R_bound HM2.out) (fun _ h => h.2.1)) (by omega)⟩ (fun j hj => ⟨by omega, fun h => by have := HVB.out j h.symm; omega⟩) (fun j hj => by omega) HM3.out HB3.out ?aS ?aL ?_; (case aS => omega); (case aL => have := HLM.out; omega); intro v1 w9 hv1 hb9 hg9 _; have cm9 := cell_grown hg9 cm2 (fun h => (HM3.out.1 _ h.symm) rfl); have HT9 := Aside0.mk (HT2.out.block (hg9.block _ hl0 (fun h => (HM3.out.1 _ h.symm) rfl))); have hfz := frozen_ty HT9.out 0; obtain ⟨A11, c11, e11⟩ := Kd.R_slice hv1; have HV1 := Aside0.mk hv1; clear hv1; obtain ⟨LL, hLL⟩ : ∃ x, x = ((allP k).map (mineRow fs part) ++ [mineRow fs part (k : Int)]).length := ⟨_, rfl⟩; rw [← hLL] at e11; clear hLL; subst e11))
            go_roundg (g1 - 1)
            case measure => omega
            case rel => exact ⟨k + 1, _, by omega, by go_num, World.cell?_setCell_same' _ _ _ (by rw [cm9]; rfl), ⟨by rw [allP_succ, List.map_append]; exact Kd.R_far (p := ⟨W0.heap.size, 0, none⟩) HV1.out (fun _ h => h) _⟩, ⟨hb9.setCell (Nat.le_refl _) _⟩, ⟨HT9.out.set⟩⟩
      · obtain rfl : g1 = 0 := by omega
        obtain rfl : m = k := by omega
        have hl4 : W0.heap.size < w4.heap.size := cell_lt cm
        have hx1 := HX.out.o1
        have d2 := (HB.out.cell (p := ⟨w.heap.size + 1 + 1, 0, none⟩) hx1).trans HX.out.p0
        obtain ⟨aMn, cMn, rfl⟩ := Kd.R_slice HM.out
        rw [List.length_map, allP_length] at HM cm
        clear hk hlt
        go_wp2_with ((with_reducible refine gate_dst (N := 139) rfl ?_); refine Kd.R_make kPt _ 49 rfl (N := 139) rfl 57 _ _ rfl (m : Int) rfl rfl Try.underlying57 (.agg #[.int .i64 0, .int .i64 0]) 16 infoPt rfl (by decide) (by omega) ⟨0, 0⟩ (ok := fun _ => True) (okp := fun _ => True) rfl (fun _ hk => hk) trivial (by omega) (by simp; omega) (Below.refl w4.heap.size _) (Nat.le_refl _) ?_; intro v5 w5 hv5 hb5 hg5 _; have hs5 := Kd.R_form hv5 (by simp; omega); obtain ⟨PT, cPt, rfl, gb5, gl5, _⟩ := hs5; simp only [List.length_replicate, Int.toNat_natCast] at hv5 ⊢; have HV5 := Aside0.mk hv5; clear hv5)
        obtain ⟨HS, HK⟩ := look_start (T := 119) HX.out H2.out HL.out HP.out HF.out HV.out HND.out HPIN.out hm hm2 hn0 hn hnf HB.out cm (by unfold mineP; rw [HLP.out]; exact HM.out) hb5 gb5 gl5 HV5.out
        have HS := Aside0.mk HS
        have HK := Aside0.mk HK
        have hbr : Below w.heap.size w w5 := (HX.out.B.trans (HB.out.mono (by omega))).trans (hb5.mono (by have := HX.out.B.size; have := HB.out.size; omega))
        have hbr6 := Aside0.mk (show Below w.heap.size w ((w5.alloc (.cells #[.slice (some ⟨PT, 0, none⟩) m cPt] 57)).alloc (.cells #[.func (.func 75) #[] (mkCp w W0 w5 aPart aL A2 aMn m n nf cPart cPt cL c2 cHr cMn bS S EN w3.heap.size HR PT).lb] 119)) from below_alloc (below_alloc hbr _) _)
        refine (choose_c _ part fs l (mineP fs part) w HS.out part 0 _ see0 l _ [] (by rw [HLP.out]; exact Nat.zero_add _) rfl rfl rfl (fun _ _ => rfl) HV.out HK.out (by simp [see0]) (by simp only [see0]; have := HVOL.out; omega) (fun j hj => .inl rfl) (fun p hp => by simp at hp)).mono ?_
        rintro e w7 ⟨rfl, KO7, P7, _, K7⟩
        have K7 := Aside0.mk K7
        have KO7 := Aside0.mk KO7
        clear d2 cm HV5 hb5 gb5 gl5 hbr hg5
        have p1 := K7.out.p1
        have l1 := cell_lt p1
        dsimp only [mkCp] at p1 l1
        go_wp2_with fail
        go_ret
        have hb7 : Below w.heap.size w w7 := K7.out.B
        have hm := LK.seen HS.out K7.out rfl (pb := pb) hpb (Kd.R_below HPR.out hb7)
        refine ⟨_, rfl, ?_, hb7⟩
        have hse : seenP fs l part = ⟨part, (lookSt fs l part).cnt, endsL (lookSt fs l part) m, (lookSt fs l part).one⟩ := by
          unfold seenP
          rw [if_neg (by have := HLP.out; omega)]
          simp only [endsL, HLP.out]
        rw [hse]
        exact hm

end Go.Proofs.Ytkkimlicabbooaa

/-
  What look leaves for a part of one point, as it lies in memory.
-/
namespace Go.Proofs.Ytkkimlicabbooaa
open Go.RowKit Go.Proofs.YtkkimlicabbooaaW.PrintWords Bs
set_option linter.unusedVariables false
set_option linter.unusedSimpArgs false

theorem pts1 {W : World} {p pb : Nat} {ok : Nat → Prop} {x y : Int} (h : Ty W p 49 2) (h0 : W.cell? ⟨p, 0, none⟩ = some (.int .i64 x)) (h1 : W.cell? ⟨p, 1, none⟩ = some (.int .i64 y)) (hb : pb ≤ p) (ho : ok p) :
    kPts.M W pb ok [⟨x, y⟩] [.slice (some ⟨p, 0, none⟩) 1 1] := by
  have hh := h.cells (cs := [.int .i64 x, .int .i64 y]) rfl (fun i u hu => by
    rcases i with _ | _ | i
    · obtain rfl : _ = u := by simpa using hu
      exact h0
    · obtain rfl : _ = u := by simpa using hu
      exact h1
    · simp at hu)
  refine ⟨_, rfl, fun k hk => by simp [Value.ownBlock] at hk; rw [← hk]; exact ho, [.int .i64 x, .int .i64 y], ⟨rfl, .inr ⟨p, 1, _, rfl, hb, hh, Nat.le_refl _, by simp [maxLen], rfl, rfl⟩⟩, ⟨rfl, fun j q hj => ?_⟩⟩
  rcases j with _ | j
  · obtain rfl : _ = q := by simpa using hj
    rfl
  · simp at hj
theorem seen_one {W : World} {S EN pq p1 p3 pb m cPart : Nat} {aPart : Option Addr} {part : List Int} {cnt : Int} {b : Bx} (hm : m = 1) (hTS : Ty W S 78 4) (hTE : Ty W EN 105 (m * 4)) (hTq : Ty W pq 49 2) (hT1 : Ty W p1 49 2) (hT3 : Ty W p3 49 2)
    (s0 : W.cell? ⟨S, 0, none⟩ = some (.slice aPart m cPart)) (s1 : W.cell? ⟨S, 1, none⟩ = some (.int .i64 cnt)) (s2 : W.cell? ⟨S, 2, none⟩ = some (.slice (some ⟨EN, 0, none⟩) m m)) (s3 : W.cell? ⟨S, 3, none⟩ = some (.slice (some ⟨pq, 0, none⟩) 1 1))
    (q0 : W.cell? ⟨pq, 0, none⟩ = some (.int .i64 b.x.lo)) (q1 : W.cell? ⟨pq, 1, none⟩ = some (.int .i64 b.y.lo)) (a0 : W.cell? ⟨p1, 0, none⟩ = some (.int .i64 b.x.hi)) (a1 : W.cell? ⟨p1, 1, none⟩ = some (.int .i64 b.y.lo)) (a2 : W.cell? ⟨p3, 0, none⟩ = some (.int .i64 b.x.lo)) (a3 : W.cell? ⟨p3, 1, none⟩ = some (.int .i64 b.y.hi))
    (i0 : W.cell? ⟨EN, 0, none⟩ = some (.slice (some ⟨pq, 0, none⟩) 1 1)) (i1 : W.cell? ⟨EN, 1, none⟩ = some (.slice (some ⟨p1, 0, none⟩) 1 1)) (i2 : W.cell? ⟨EN, 2, none⟩ = some (.slice (some ⟨pq, 0, none⟩) 1 1)) (i3 : W.cell? ⟨EN, 3, none⟩ = some (.slice (some ⟨p3, 0, none⟩) 1 1))
    (bS : pb ≤ S) (bE : pb ≤ EN) (bq : pb ≤ pq) (b1 : pb ≤ p1) (b3 : pb ≤ p3) (nq : pq ≠ EN) (n1 : p1 ≠ EN) (n3 : p3 ≠ EN) (hp : kInt.R 3 W pb (fun _ => True) (.slice aPart m cPart) part) :
    kSeen.M W pb (fun _ => True) ⟨part, cnt, [([⟨b.x.lo, b.y.lo⟩], [⟨b.x.hi, b.y.lo⟩], [⟨b.x.lo, b.y.lo⟩], [⟨b.x.lo, b.y.hi⟩])], [⟨b.x.lo, b.y.lo⟩]⟩ [.pointer (some ⟨S, 0, none⟩)] := by
  subst hm
  have hS := hTS.cells (cs := [.slice aPart 1 cPart, .int .i64 cnt, .slice (some ⟨EN, 0, none⟩) 1 1, .slice (some ⟨pq, 0, none⟩) 1 1]) rfl (fun i u hu => by
    rcases i with _ | _ | _ | _ | i
    · obtain rfl : _ = u := by simpa using hu
      exact s0
    · obtain rfl : _ = u := by simpa using hu
      exact s1
    · obtain rfl : _ = u := by simpa using hu
      exact s2
    · obtain rfl : _ = u := by simpa using hu
      exact s3
    · simp at hu)
  have hE := hTE.cells (cs := [.slice (some ⟨pq, 0, none⟩) 1 1, .slice (some ⟨p1, 0, none⟩) 1 1, .slice (some ⟨pq, 0, none⟩) 1 1, .slice (some ⟨p3, 0, none⟩) 1 1]) rfl (fun i u hu => by
    rcases i with _ | _ | _ | _ | i
    · obtain rfl : _ = u := by simpa using hu
      exact i0
    · obtain rfl : _ = u := by simpa using hu
      exact i1
    · obtain rfl : _ = u := by simpa using hu
      exact i2
    · obtain rfl : _ = u := by simpa using hu
      exact i3
    · simp at hu)
  refine ⟨S, _, rfl, trivial, bS, hS, ⟨[.slice aPart 1 cPart], _, rfl, ⟨_, rfl, hp⟩, ⟨[.int .i64 cnt], _, rfl, rfl, ⟨[.slice (some ⟨EN, 0, none⟩) 1 1], [.slice (some ⟨pq, 0, none⟩) 1 1], rfl, ⟨_, rfl, ?_⟩, pts1 hTq q0 q1 bq trivial⟩⟩⟩⟩
  refine ⟨fun _ _ => trivial, _, ⟨rfl, .inr ⟨EN, 1, _, rfl, bE, hE, Nat.le_refl _, by simp [maxLen], rfl, rfl⟩⟩, ⟨rfl, fun j q hj => ?_⟩⟩
  rcases j with _ | j
  · obtain rfl : _ = q := by simpa using hj
    have hk : ∀ k, k ≠ EN → (fun k => True ∧ some k ≠ (Value.slice (some ⟨EN, 0, none⟩) 1 1).ownBlock) k := fun k h => ⟨trivial, fun e => h (by simpa [Value.ownBlock] using e)⟩
    exact ⟨[_], _, rfl, pts1 hTq q0 q1 bq (hk _ nq), ⟨[_], _, rfl, pts1 hT1 a0 a1 b1 (hk _ n1), ⟨[_], [_], rfl, pts1 hTq q0 q1 bq (hk _ nq), pts1 hT3 a2 a3 b3 (hk _ n3)⟩⟩⟩
  · simp at hj
end Go.Proofs.Ytkkimlicabbooaa

/-
  look of package search, walked for a part of one point.
-/
namespace Go.Proofs.Ytkkimlicabbooaa
open Go.RowKit Go.Proofs.YtkkimlicabbooaaW.PrintWords Bs
attribute [local go_sem] Later.cell? Later.frozen?
set_option linter.unusedVariables false
set_option linter.unusedSimpArgs false

section
variable {w W W2 : World} {r : Option Nat} {b t n : Nat}
theorem gr_refl : w.grownBy w r := ⟨rfl, rfl, rfl, Nat.le_refl _, fun _ _ _ => rfl⟩
theorem gr_alloc {o : Obj} (h : w.grownBy W r) : w.grownBy (W.alloc o) r := grownBy_trans h (World.grownBy_alloc _ _ _)
theorem gr_drew (h : w.grownBy W r) : w.grownBy W.drew r := ⟨h.os, h.tape, h.output, h.size, h.block⟩
theorem gr_set {g j : Nat} {u : Value} (h : w.grownBy W (some g)) : w.grownBy (W.setCell ⟨g, j, none⟩ u) (some g) := grownBy_trans h (grown_set _ _ _ _)
theorem gr_below (h : w.grownBy W r) (hb : Below W.heap.size W W2) : w.grownBy W2 r := grownBy_trans h (grown_of_below hb _)
theorem Ty.new {cs : Array Value} : Ty (W.alloc (.cells cs t)) W.heap.size t cs.size := ⟨cs, heap_alloc_new _ _, rfl⟩
theorem Ty.old {o : Obj} (h : Ty W b t n) : Ty (W.alloc o) b t n := h.block (heap_alloc_lt _ _ h.lt)
theorem Ty.drew (h : Ty W b t n) : Ty W.drew b t n := h
theorem Ty.below (h : Ty W b t n) (hb : Below W.heap.size W W2) : Ty W2 b t n := h.block (hb.block _ h.lt)
theorem Ty.new2 {cs : Array Value} {g j : Nat} {u : Value} (e : b = W.heap.size) : Ty ((W.setCell ⟨g, j, none⟩ u).alloc (.cells cs t)) b t cs.size := by
  subst e
  have h := Ty.new (W := W.setCell ⟨g, j, none⟩ u) (t := t) (cs := cs)
  rwa [World.size_setCell] at h
theorem Ty.new3 {cs : Array Value} (e : b = W.heap.size) : Ty (W.alloc (.cells cs t)) b t cs.size := by subst e; exact .new
theorem cell_nil {EN k i : Nat} (h : W.heap[EN]? = some (.cells (nilCells k) t (0, 0))) (hi : i < k) : W.cell? ⟨EN, i, none⟩ = some (.slice none 0 0) := by
  have := nil_at hi
  simp only [World.cell?, h]
  simpa using this
end

set_option maxHeartbeats 12800000 in
set_option maxRecDepth 100000 in
theorem look_one (A1 A2 aL aPart : Option Addr) (n nf c1 c2 cL m cPart pb : Nat) (w : World) (fs : List Fct) (l : List Bx) (part : List Int) (hL : kBx.C w aL n l) (hp : kInt.C w aPart m part) (hpR : kInt.R 3 w pb (fun _ => True) (.slice aPart m cPart) part) (hpb : pb ≤ w.heap.size)
    (hv : AllValid l) (hpin : ∀ i ∈ part, 0 ≤ i ∧ i < (n : Int)) (hm : m = 1) (hn0 : 0 < n) (hn : n ≤ 12) :
    Calls Try.prog 66 #[.agg #[.slice A1 n c1, .slice A2 nf c2], .slice aL n cL, .slice aPart m cPart] w fun e w' => ∃ v, e = .returned v ∧ kSeen.M w' pb (fun _ => True) (seenP fs l part) [v] ∧ Below w.heap.size w w' := by
  have hmk := mk_ends m (by omega)
  have hm1 : ((m : Int) == 1) = true := by simp; omega
  have hm0 : 0 < m := by omega
  have HM := Aside0.mk hm
  obtain ⟨ba, oa, hpa, hba, pa⟩ := at_Int hp 0 (by omega) (by omega)
  have hpm := hpin (rInt part 0) (by rw [show rInt part 0 = part.getD 0 0 from rfl]; exact mem_get (by have := hp.1; omega))
  obtain ⟨q, hq⟩ := Int.eq_ofNat_of_zero_le hpm.1
  rw [hq] at pa hpm
  obtain ⟨bl, ol, hla, hbl, x0, x1, x2, x3⟩ := at_Bx hL (q : Int) hpm.1 hpm.2
  have hvb := hv (q : Int) hpm.1 (by have := hL.1; omega)
  obtain ⟨xa, xb, xc, ya, yb, yc, xd, yd⟩ := valid_bd hvb
  have HPR := Aside0.mk hpR
  have HP := Aside0.mk hp
  have HLP := Aside0.mk hp.1
  have HQ := Aside0.mk hq
  have hqn := hpm.2
  simp only [Int.toNat_zero, Int.toNat_natCast, Nat.add_zero] at pa x0 x1 x2 x3
  generalize hbb : rBx l (q : Int) = bb at *
  have HBB := Aside0.mk hbb
  clear hpR hp hv hpin hm hL hpm hq hbb hvb
  subst hpa hla
  go_enter Try.func66, Try.ntmps66
  go_wp2_with fail
  generalize hW : ((w.alloc _).alloc _).alloc _ = W
  have q0 : W.heap.size = w.heap.size + 1 + 1 + 1 := by subst hW; simp
  have e2 : W.cell? ⟨w.heap.size + 1 + 1, 0, none⟩ = some (.slice (some ⟨ba, oa, none⟩) m cPart) := by subst hW; go_simp
  have e1 : W.cell? ⟨w.heap.size + 1, 0, none⟩ = some (.slice (some ⟨bl, ol, none⟩) n cL) := by subst hW; go_simp
  have hBW : Below w.heap.size w W := by subst hW; exact (by repeat (first | (with_reducible exact Below.refl _ _) | (with_reducible exact HB.out) | (with_reducible assumption) | (with_reducible apply below_alloc) | (with_reducible apply below_drew) | (with_reducible apply pw_below_drewN) | (with_reducible refine bstep' ?_ (by assumption)) | ((with_reducible refine Below.setCell ?_ ?_ _); rotate_left; (first | (dsimp only; omega) | (simp; done) | (simp; omega) | omega))))
  have HBW := Aside0.mk hBW
  rw [← hBW.cell (by exact hba)] at pa
  rw [← hBW.cell (by exact hbl)] at x0 x1 x2 x3
  clear hW hBW
  go_cut [7, 21, 23] (fun p s q W1 => Look1P W (some ⟨ba, oa, none⟩) m cPart p s q W1)
  case first =>
    go_region_held3 (fun w' => (∀ b o, b < W.heap.size → w'.cell? ⟨b, o, none⟩ = W.cell? ⟨b, o, none⟩) ∧ (∀ b o, b < W.heap.size → w'.frozen? ⟨b, o, none⟩ = W.frozen? ⟨b, o, none⟩) ∧ Below W.heap.size W w') (first | (go_split_ands; exact S_of_below (by repeat (first | (with_reducible exact Below.refl _ _) | (with_reducible exact HB.out) | (with_reducible assumption) | (with_reducible apply below_alloc) | (with_reducible apply below_drew) | (with_reducible apply pw_below_drewN) | (with_reducible refine bstep' ?_ (by assumption)) | ((with_reducible refine Below.setCell ?_ ?_ _); rotate_left; (first | (dsimp only; omega) | (simp; done) | (simp; omega) | omega)))))) ((first | fail))
    all_goals (go_wp2_with fail)
    all_goals go_meet
    all_goals (case rel => exact ⟨_, _, _, rfl, rfl, rfl, ⟨by go_simp, (by first | (simp; done) | (simp; omega) | omega), (by first | (simp; done) | (simp; omega) | omega), (by first | (simp; done) | (simp; omega) | omega), (by first | (simp; done) | (simp; omega) | omega), (by first | (simp; done) | (simp; omega) | omega), (by first | (simp; done) | (simp; omega) | omega), (by repeat (first | (exact heap_alloc_at _ _ (by first | (simp; done) | (simp; omega) | omega)) | (refine (heap_alloc_lt _ _ (by first | (simp; done) | (simp; omega) | omega)).trans ?_) | (refine (heap_set_ne _ _ _ (by first | (simp; done) | (simp; omega) | omega)).trans ?_) | (refine (heap_drew _ _).trans ?_) | rfl)), (by repeat (first | (exact heap_alloc_at _ _ (by first | (simp; done) | (simp; omega) | omega)) | (refine (heap_alloc_lt _ _ (by first | (simp; done) | (simp; omega) | omega)).trans ?_) | (refine (heap_set_ne _ _ _ (by first | (simp; done) | (simp; omega) | omega)).trans ?_) | (refine (heap_drew _ _).trans ?_) | rfl)), (by repeat (first | (with_reducible exact Below.refl _ _) | (with_reducible exact HB.out) | (with_reducible assumption) | (with_reducible apply below_alloc) | (with_reducible apply below_drew) | (with_reducible apply pw_below_drewN) | (with_reducible refine bstep' ?_ (by assumption)) | ((with_reducible refine Below.setCell ?_ ?_ _); rotate_left; (first | (dsimp only; omega) | (simp; done) | (simp; omega) | omega))))⟩⟩)
  case rest =>
    clear hmk
    obtain ⟨bS, S, EN, rfl, rfl, rfl, H1⟩ := hcut
    have H1 := Aside0.mk H1
    have b0 := H1.out.g0
    have b1 := H1.out.g1
    have b2 := H1.out.g2
    have b3 := H1.out.d0
    have b4 := H1.out.d1
    have b5 := H1.out.d2
    have c0 := H1.out.p
    have b6 : bS < wc.heap.size := cell_lt c0
    have b7 : S < wc.heap.size := (Array.getElem?_eq_some_iff.1 H1.out.hS).1
    have b8 : EN < wc.heap.size := (Array.getElem?_eq_some_iff.1 H1.out.hE).1
    have hB1 := H1.out.B
    rw [← hB1.cell (by dsimp only; omega)] at e1 e2 pa x0 x1 x2 x3
    have HBC := Aside0.mk (HBW.out.trans (hB1.mono (by omega)))
    have b9 := hB1.size
    have t0 : w.heap.size + 1 < wc.heap.size := by omega
    have t1 : w.heap.size + 1 + 1 < wc.heap.size := by omega
    have t2 : ba < wc.heap.size := by omega
    have t3 : bl < wc.heap.size := by omega
    clear hB1
    obtain ⟨w1, rfl⟩ : ∃ u, u = wc := ⟨_, rfl⟩
    go_wp2_with fail
    go_cut [8] (fun p W => ∃ b8, p = .pointer (some ⟨b8, 0, none⟩) ∧ w1.heap.size ≤ b8 ∧ W.cell? ⟨b8, 0, none⟩ = some (.int .i64 bb.x.lo) ∧ W.cell? ⟨b8, 1, none⟩ = some (.int .i64 bb.x.hi) ∧ W.cell? ⟨b8, 2, none⟩ = some (.int .i64 bb.y.lo) ∧ W.cell? ⟨b8, 3, none⟩ = some (.int .i64 bb.y.hi) ∧ Aside0 (Below w1.heap.size w1 W))
    case first =>
      go_region_held3 (fun w' => (∀ b o, b < w1.heap.size → w'.cell? ⟨b, o, none⟩ = w1.cell? ⟨b, o, none⟩) ∧ (∀ b o, b < w1.heap.size → w'.frozen? ⟨b, o, none⟩ = w1.frozen? ⟨b, o, none⟩) ∧ Below w1.heap.size w1 w') (first | (go_split_ands; exact S_of_below (by repeat (first | (with_reducible exact Below.refl _ _) | (with_reducible exact HB.out) | (with_reducible assumption) | (with_reducible apply below_alloc) | (with_reducible apply below_drew) | (with_reducible apply pw_below_drewN) | (with_reducible refine bstep' ?_ (by assumption)) | ((with_reducible refine Below.setCell ?_ ?_ _); rotate_left; (first | (dsimp only; omega) | (simp; done) | (simp; omega) | omega)))))) ((first | fail))
      all_goals (go_wp2_with fail)
      all_goals go_meet
      all_goals (case rel => exact ⟨_, rfl, (by first | (simp; done) | (simp; omega) | omega), by go_simp, by go_simp, by go_simp, by go_simp, ⟨(by repeat (first | (with_reducible exact Below.refl _ _) | (with_reducible exact HB.out) | (with_reducible assumption) | (with_reducible apply below_alloc) | (with_reducible apply below_drew) | (with_reducible apply pw_below_drewN) | (with_reducible refine bstep' ?_ (by assumption)) | ((with_reducible refine Below.setCell ?_ ?_ _); rotate_left; (first | (dsimp only; omega) | (simp; done) | (simp; omega) | omega))))⟩⟩)
    case rest =>
      obtain ⟨b8', rfl, z, x0', x1', x2', x3', HB2⟩ := hcut
      have hb2 := HB2.out
      have c0' := (hb2.cell (p := ⟨bS, 0, none⟩) b6).trans c0
      have g1 : bS < wc.heap.size := cell_lt c0'
      have g2 : b8' < wc.heap.size := cell_lt x0'
      have g3 := hb2.size
      have g4 : b8' ≠ S := by omega
      have g5 : S < wc.heap.size := by omega
      have g5' : S < wc.heap.size + 1 := by omega
      have hmul : 0 ≤ (bb.x.hi - bb.x.lo + 1) * (bb.y.hi - bb.y.lo + 1) ∧ (bb.x.hi - bb.x.lo + 1) * (bb.y.hi - bb.y.lo + 1) ≤ 4398050705409 := ⟨Int.mul_nonneg (by omega) (by omega), Int.le_trans (Int.mul_le_mul (show bb.x.hi - bb.x.lo + 1 ≤ 2097153 by omega) (show bb.y.hi - bb.y.lo + 1 ≤ 2097153 by omega) (by omega) (by omega)) (by omega)⟩
      obtain ⟨hmul1, hmul2⟩ := hmul
      have hwr : IntKind.i64.wrap ((bb.x.hi - bb.x.lo + 1) * (bb.y.hi - bb.y.lo + 1)) = (bb.x.hi - bb.x.lo + 1) * (bb.y.hi - bb.y.lo + 1) := IntWalk.i64_in _ (by omega)
      have hS2 := (hb2.block S b7).trans H1.out.hS
      have s0 : wc.cell? ⟨S, 0, none⟩ = some (.slice (some ⟨ba, oa, none⟩) m cPart) := by simp [World.cell?, hS2]
      have s2 : wc.cell? ⟨S, 2, none⟩ = some (.slice (some ⟨EN, 0, none⟩) m m) := by simp [World.cell?, hS2]
      have s1 : wc.cell? ⟨S, 1, none⟩ = some (.int .i64 0) := by simp [World.cell?, hS2]
      have s3 : wc.cell? ⟨S, 3, none⟩ = some (.slice none 0 0) := by simp [World.cell?, hS2]
      have sf : ∀ o, wc.frozen? ⟨S, o, none⟩ = false := fun o => by simp [World.frozen?, hS2]
      have sf1 := sf 1
      have sf3 := sf 3
      have hTS2 : Ty wc S 78 4 := ⟨_, hS2, rfl⟩
      clear sf hb2 c0 x0 x1 x2 x3 pa e1 e2 hS2
      obtain ⟨w2, rfl⟩ : ∃ u, u = wc := ⟨_, rfl⟩
      go_wp2_with fail
      go_cut [49] (fun v W => ∃ pq, v = .slice (some ⟨pq, 0, none⟩) 1 1 ∧ W.cell? ⟨S, 0, none⟩ = some (.slice (some ⟨ba, oa, none⟩) m cPart) ∧ W.cell? ⟨S, 2, none⟩ = some (.slice (some ⟨EN, 0, none⟩) m m) ∧ W.cell? ⟨S, 1, none⟩ = some (.int .i64 ((bb.x.hi - bb.x.lo + 1) * (bb.y.hi - bb.y.lo + 1))) ∧ W.cell? ⟨S, 3, none⟩ = some (.slice (some ⟨pq, 0, none⟩) 1 1) ∧ w2.heap.size ≤ pq ∧ W.cell? ⟨pq, 0, none⟩ = some (.int .i64 bb.x.lo) ∧ W.cell? ⟨pq, 1, none⟩ = some (.int .i64 bb.y.lo) ∧ Aside0 (Ty W pq 49 2) ∧ Aside0 (Ty W S 78 4) ∧ Aside0 (w2.grownBy W (some S)))
      case first =>
        go_region_held3 (fun w' => (∀ b o, b < w2.heap.size → (b ≠ S) → w'.cell? ⟨b, o, none⟩ = w2.cell? ⟨b, o, none⟩) ∧ w2.heap.size ≤ w'.heap.size) (first | (repeat (first | (with_reducible assumption) | (with_reducible exact SB_refl _ _) | (with_reducible apply SB_drew) | (with_reducible refine SB_below ?_ (by assumption)) | ((with_reducible refine SB_set ?_ ?_ _); rotate_left; (focus (simp; done))) | ((with_reducible refine SB_new ?_ ?_ _); rotate_left; (first | (dsimp only; omega) | (simp; done) | (simp; omega) | omega)) | (with_reducible apply SB_alloc)))) ((first | (go_at_call 31; refine (size_c _ _ _ (by omega) (by omega)).mono ?_; rintro e w8 ⟨rfl, hb8⟩; obtain ⟨hc8, hf8, hz8⟩ := bcell hb8; (try simp only [World.size_alloc, World.size_setCell, World.size_drew] at hz8); have hS8 : S < w8.heap.size := (by omega); have hS8' : S < w8.heap.size + 1 := (by omega); (try (have hw8 : w2.heap.size < w8.heap.size := (by omega))); have s0x : w8.cell? ⟨S, 0, none⟩ = some (.slice (some ⟨ba, oa, none⟩) m cPart) := (hb8.cell (p := ⟨S, 0, none⟩) (by first | (simp; done) | (simp; omega) | omega)).trans (by go_simp); have s2x : w8.cell? ⟨S, 2, none⟩ = some (.slice (some ⟨EN, 0, none⟩) m m) := (hb8.cell (p := ⟨S, 2, none⟩) (by first | (simp; done) | (simp; omega) | omega)).trans (by go_simp); have s1x : w8.cell? ⟨S, 1, none⟩ = some (.int .i64 0) := (hb8.cell (p := ⟨S, 1, none⟩) (by first | (simp; done) | (simp; omega) | omega)).trans (by go_simp); have f1x : w8.frozen? ⟨S, 1, none⟩ = false := (hb8.frozen (p := ⟨S, 1, none⟩) (by first | (simp; done) | (simp; omega) | omega)).trans (by go_simp); have f3x : w8.frozen? ⟨S, 3, none⟩ = false := (hb8.frozen (p := ⟨S, 3, none⟩) (by first | (simp; done) | (simp; omega) | omega)).trans (by go_simp); (try (have s3x : w8.cell? ⟨S, 3, none⟩ = some (.slice none 0 0) := (hb8.cell (p := ⟨S, 3, none⟩) (by first | (simp; done) | (simp; omega) | omega)).trans (by go_simp))))))
        all_goals (go_wp2_with fail)
        all_goals go_meet
        all_goals (case rel => exact ⟨_, rfl, by go_simp, by go_simp, by go_simp, by go_simp, (by first | (simp; done) | (simp; omega) | omega), by go_simp, by go_simp, ⟨(by repeat (first | (with_reducible assumption) | (exact Ty.new3 (by first | (simp; done) | (simp; omega) | omega)) | (with_reducible refine Ty.old ?_) | (with_reducible refine Ty.set ?_) | (with_reducible refine Ty.drew ?_) | (with_reducible refine Ty.below ?_ (by assumption))))⟩, ⟨(by repeat (first | (with_reducible assumption) | (exact Ty.new3 (by first | (simp; done) | (simp; omega) | omega)) | (with_reducible refine Ty.old ?_) | (with_reducible refine Ty.set ?_) | (with_reducible refine Ty.drew ?_) | (with_reducible refine Ty.below ?_ (by assumption))))⟩, ⟨(by repeat (first | (with_reducible exact gr_refl) | (with_reducible assumption) | (with_reducible refine gr_alloc ?_) | (with_reducible refine gr_set ?_) | (with_reducible refine gr_drew ?_) | (with_reducible refine gr_below ?_ (by assumption))))⟩⟩)
      case rest =>
        obtain ⟨pq, rfl, s0', s2', s1', s3', zq, y0, y1, HTq, HTS, HG3⟩ := hcut
        have hg3 := HG3.out
        have c0 := cell_grown hg3 c0' (fun h => b3 (by injection h))
        have x0 := cell_grown hg3 x0' (fun h => g4 (by injection h))
        have x1 := cell_grown hg3 x1' (fun h => g4 (by injection h))
        have x2 := cell_grown hg3 x2' (fun h => g4 (by injection h))
        have x3 := cell_grown hg3 x3' (fun h => g4 (by injection h))
        have hS2 := (HB2.out.block S b7).trans H1.out.hS
        have hE2 := (HB2.out.block EN b8).trans H1.out.hE
        have hE3 := (hg3.block EN (by omega) (fun h => b5 (by injection h with h; exact h.symm))).trans hE2
        have hg3s := hg3.size
        have hTE : Ty wc EN 105 (m * 4) := ⟨_, hE3, by simp [nilCells]⟩
        have n0 : wc.cell? ⟨EN, 0, none⟩ = some (.slice none 0 0) := cell_nil hE3 (by omega)
        have n1 : wc.cell? ⟨EN, 1, none⟩ = some (.slice none 0 0) := cell_nil hE3 (by omega)
        have n2 : wc.cell? ⟨EN, 2, none⟩ = some (.slice none 0 0) := cell_nil hE3 (by omega)
        have n3 : wc.cell? ⟨EN, 3, none⟩ = some (.slice none 0 0) := cell_nil hE3 (by omega)
        have nf : ∀ o, wc.frozen? ⟨EN, o, none⟩ = false := frozen_ty hTE
        have k1 : bS < wc.heap.size := cell_lt c0
        have k2 : b8' < wc.heap.size := cell_lt x0
        have k3 : S < wc.heap.size := cell_lt s1'
        have k4 : EN < wc.heap.size := hTE.lt
        have k5 : b8' ≠ EN := by omega
        clear hg3 c0' x0' x1' x2' x3' hS2 hE2 hE3 s1 s3 sf1 sf3
        obtain ⟨w3, rfl⟩ : ∃ u, u = wc := ⟨_, rfl⟩
        go_wp2_with fail
        go_cut [69, 81] (fun v u W => ∃ p1 p3, v = .slice (some ⟨p1, 0, none⟩) 1 1 ∧ u = .slice (some ⟨p3, 0, none⟩) 1 1 ∧ w3.heap.size ≤ p1 ∧ w3.heap.size ≤ p3 ∧ W.cell? ⟨p1, 0, none⟩ = some (.int .i64 bb.x.hi) ∧ W.cell? ⟨p1, 1, none⟩ = some (.int .i64 bb.y.lo) ∧ W.cell? ⟨p3, 0, none⟩ = some (.int .i64 bb.x.lo) ∧ W.cell? ⟨p3, 1, none⟩ = some (.int .i64 bb.y.hi)
          ∧ W.cell? ⟨EN, 0, none⟩ = some (.slice (some ⟨pq, 0, none⟩) 1 1) ∧ W.cell? ⟨EN, 1, none⟩ = some (.slice (some ⟨p1, 0, none⟩) 1 1) ∧ W.cell? ⟨EN, 2, none⟩ = some (.slice (some ⟨pq, 0, none⟩) 1 1) ∧ W.cell? ⟨EN, 3, none⟩ = some (.slice (some ⟨p3, 0, none⟩) 1 1) ∧ Aside0 (Ty W p1 49 2) ∧ Aside0 (Ty W p3 49 2) ∧ Aside0 (Ty W EN 105 (m * 4)) ∧ Aside0 (w3.grownBy W (some EN)))
        case first =>
          clear hmul1 hmul2 hwr H1 HBC HBW HTS HTq HB2 HG3 b0 b1 b2 b3 q0 hpb b9 t0 t1 t2 t3 z g1 g2 g3 g5 g5' xa xb xc ya yb yc xd yd HP HPR HLP HQ hqn HBB hm1 hTS2
          go_region_held3 (fun w' => (∀ b o, b < w3.heap.size → (b ≠ EN) → w'.cell? ⟨b, o, none⟩ = w3.cell? ⟨b, o, none⟩) ∧ w3.heap.size ≤ w'.heap.size) (first | (repeat (first | (with_reducible assumption) | (with_reducible exact SB_refl _ _) | (with_reducible apply SB_drew) | (with_reducible refine SB_below ?_ (by assumption)) | ((with_reducible refine SB_set ?_ ?_ _); rotate_left; (focus (simp; done))) | ((with_reducible refine SB_new ?_ ?_ _); rotate_left; (first | (dsimp only; omega) | (simp; done) | (simp; omega) | omega)) | (with_reducible apply SB_alloc)))) ((first | fail))
          all_goals (go_wp2_with fail)
          all_goals go_meet
          all_goals (case rel => exact ⟨_, _, rfl, rfl, (by first | (simp; done) | (simp; omega) | omega), (by first | (simp; done) | (simp; omega) | omega), by go_simp, by go_simp, by go_simp, by go_simp, by go_simp, by go_simp, by go_simp, by go_simp, ⟨(by repeat (first | (with_reducible assumption) | (exact Ty.new3 (by first | (simp; done) | (simp; omega) | omega)) | (with_reducible refine Ty.old ?_) | (with_reducible refine Ty.set ?_) | (with_reducible refine Ty.drew ?_) | (with_reducible refine Ty.below ?_ (by assumption))))⟩, ⟨(by repeat (first | (with_reducible assumption) | (exact Ty.new3 (by first | (simp; done) | (simp; omega) | omega)) | (with_reducible refine Ty.old ?_) | (with_reducible refine Ty.set ?_) | (with_reducible refine Ty.drew ?_) | (with_reducible refine Ty.below ?_ (by assumption))))⟩, ⟨(by repeat (first | (with_reducible assumption) | (exact Ty.new3 (by first | (simp; done) | (simp; omega) | omega)) | (with_reducible refine Ty.old ?_) | (with_reducible refine Ty.set ?_) | (with_reducible refine Ty.drew ?_) | (with_reducible refine Ty.below ?_ (by assumption))))⟩, ⟨(by repeat (first | (with_reducible exact gr_refl) | (with_reducible assumption) | (with_reducible refine gr_alloc ?_) | (with_reducible refine gr_set ?_) | (with_reducible refine gr_drew ?_) | (with_reducible refine gr_below ?_ (by assumption))))⟩⟩)
        case rest =>
          obtain ⟨p1, p3, rfl, rfl, zp1, zp3, a0, a1, a2, a3, i0, i1, i2, i3, HT1, HT3, HTE, HG4⟩ := hcut
          have hg4 := HG4.out
          have c1 := cell_grown hg4 c0 (fun h => b4 (by injection h))
          have l1 := cell_lt c1
          go_wp2_with fail
          go_ret
          have hgo : ∀ {b o : Nat} {u : Value}, b ≠ EN → w3.cell? ⟨b, o, none⟩ = some u → wc.cell? ⟨b, o, none⟩ = some u := fun h hc => cell_grown hg4 hc (fun e => h (by injection e))
          have hgT : ∀ {b t k : Nat}, b ≠ EN → Ty w3 b t k → Ty wc b t k := fun h ht => ht.block (hg4.block _ ht.lt (fun e => h (by injection e)))
          have hb1 : Below w.heap.size w w2 := HBC.out.trans (HB2.out.mono (by have := HBC.out.size; omega))
          have hb2 : Below w.heap.size w w3 := hb1.grown HG3.out hb1.size (fun k e => by cases e; omega)
          have hb3 : Below w.heap.size w wc := hb2.grown hg4 hb2.size (fun k e => by cases e; omega)
          have hse := seen_one HM.out (hgT b5 HTS.out) HTE.out (hgT (by omega) HTq.out) HT1.out HT3.out (hgo b5 s0') (hgo b5 s1') (hgo b5 s2') (hgo b5 s3') (hgo (by omega) y0) (hgo (by omega) y1) a0 a1 a2 a3 i0 i1 i2 i3
            (pb := pb) (by omega) (by omega) (by omega) (by omega) (by omega) (by omega) (by omega) (by omega) (Kd.R_below HPR.out hb3)
          refine ⟨_, rfl, ?_, hb3⟩
          have hsp : seenP fs l part = ⟨part, (bb.x.hi - bb.x.lo + 1) * (bb.y.hi - bb.y.lo + 1), [([⟨bb.x.lo, bb.y.lo⟩], [⟨bb.x.hi, bb.y.lo⟩], [⟨bb.x.lo, bb.y.lo⟩], [⟨bb.x.lo, bb.y.hi⟩])], [⟨bb.x.lo, bb.y.lo⟩]⟩ := by
            unfold seenP
            rw [if_pos (by rw [HLP.out]; exact HM.out)]
            simp only [HQ.out, HBB.out, sizeP]
          rw [hsp]
          exact hse

end Go.Proofs.Ytkkimlicabbooaa

/-
  find, solved of package search.
-/
namespace Go.Proofs.Ytkkimlicabbooaa
open Go.RowKit Go.Proofs.YtkkimlicabbooaaW.PrintWords Bs
attribute [local go_sem] Later.cell? Later.frozen?
set_option linter.unusedVariables false
set_option linter.unusedSimpArgs false

/-- look, whatever the part. -/
theorem look_c (A1 A2 aL aPart : Option Addr) (n nf c1 c2 cL m cPart pb : Nat) (w : World) (fs : List Fct) (l : List Bx) (part : List Int) (h2 : kFct.C w A2 nf fs) (hL : kBx.C w aL n l) (hpR : kInt.R 3 w pb (fun _ => True) (.slice aPart m cPart) part) (hpb : pb ≤ w.heap.size)
    (hf : AllFormed fs n) (hv : AllValid l) (hnd : part.Nodup) (hpin : ∀ i ∈ part, 0 ≤ i ∧ i < (n : Int)) (hvol : 1 < m → (volR l part : Int) ≤ 65536) (hm : m ≤ 12) (hm0 : 0 < m) (hn : n ≤ 12) (hnf : nf ≤ 60) :
    Calls Try.prog 66 #[.agg #[.slice A1 n c1, .slice A2 nf c2], .slice aL n cL, .slice aPart m cPart] w fun e w' => ∃ v, e = .returned v ∧ kSeen.M w' pb (fun _ => True) (seenP fs l part) [v] ∧ Below w.heap.size w w' := by
  have hp := row_C hpR
  have hn0 : 0 < n := by
    have := hpin (part.getD 0 0) (mem_get (by omega))
    omega
  by_cases h1 : m = 1
  · exact look_one A1 A2 aL aPart n nf c1 c2 cL m cPart pb w fs l part hL hp.2 hpR hpb hv hpin h1 hn0 hn
  · exact look_many A1 A2 aL aPart n nf c1 c2 cL m cPart pb w fs l part h2 hL hp.2 hpR hpb hf hv hnd hpin (by have := hvol (by omega); omega) hm (by omega) hn0 hn hnf

/-- An element of a row of the call's own, as it was made. -/
theorem R_elem {α : Type} {d : Kd α} {e base n cap : Nat} {ok : Nat → Prop} {w : World} {A : Option Addr} {xs : List α} (h : d.R e w base ok (.slice A n cap) xs) {j : Nat} {p : α} (hj : xs[j]? = some p) (hsz : 0 < d.sz) :
    ∃ g c, A = some ⟨g, 0, none⟩ ∧ base ≤ g ∧ d.M w base ok p c ∧ ∀ i u, c[i]? = some u → w.cell? ⟨g, j * d.sz + i, none⟩ = some u := by
  obtain ⟨_, inner, ⟨hl, ho⟩, hr⟩ := h
  obtain ⟨hjl, _⟩ := List.getElem?_eq_some_iff.1 hj
  rcases ho with ⟨_, h0⟩ | ⟨g, cap', cur, he, hb, hh, _, _, hcs, hin⟩
  · omega
  · injection he with h1 h2 h3
    subst h1
    refine ⟨g, _, rfl, hb, d.M_mono (fun k hk => hk.1) (hr.2 j p hj), fun i u hu => ?_⟩
    have hi : i < d.sz := by
      have := (List.getElem?_eq_some_iff.1 hu).1
      rw [List.length_take] at this
      omega
    rw [List.getElem?_take_of_lt hi, List.getElem?_drop] at hu
    rw [← hin] at hu
    have hlt : j * d.sz + i < xs.length * d.sz := by
      have : (j + 1) * d.sz ≤ xs.length * d.sz := Nat.mul_le_mul_right _ hjl
      rw [Nat.succ_mul] at this
      omega
    rw [List.getElem?_take_of_lt hlt] at hu
    simp only [World.cell?, hh]
    simpa using hu
theorem row_elem {e base n cap : Nat} {ok : Nat → Prop} {w : World} {A : Option Addr} {gs : List (List Int)} (h : kRows.R e w base ok (.slice A n cap) gs) {j : Nat} (hj : j < gs.length) :
    ∃ g A' c', A = some ⟨g, 0, none⟩ ∧ w.cell? ⟨g, j, none⟩ = some (.slice A' (rRow gs j).length c') ∧ kInt.R 3 w base ok (.slice A' (rRow gs j).length c') (rRow gs j) := by
  obtain ⟨g, c, rfl, _, ⟨v, rfl, hR⟩, hc⟩ := R_elem (d := kRows) h (j := j) (p := rRow gs j) (by unfold rRow; rw [List.getD_eq_getElem?_getD, List.getElem?_eq_getElem hj]; rfl) (by decide)
  obtain ⟨A', c', rfl⟩ := Kd.R_slice hR
  exact ⟨g, A', c', rfl, by simpa [kRows, Kd.slice] using hc 0 _ rfl, hR⟩

/-- What is found of a problem that is valid. -/
def FindPost (w : World) (p : Prob) (e : Ending) (w' : World) : Prop :=
  ∃ v, e = .returned (.tuple #[.agg #[.bool (findP p).empty, v], .int .i64 (findP p).err]) ∧ kSeen.R 75 w' w.heap.size (fun _ => True) v (findP p).parts ∧ Below w.heap.size w w'

/-- The cells of what is seen. -/
theorem seen_cells {W : World} {x : Seen} {cs : List Value} (h : kSeen.K W x cs) : ∃ S A c A2 c2 A3 c3, cs = [.pointer (some ⟨S, 0, none⟩)] ∧ W.cell? ⟨S, 0, none⟩ = some (.slice A x.part.length c) ∧ kInt.C W A x.part.length x.part ∧ W.cell? ⟨S, 1, none⟩ = some (.int .i64 x.cnt) ∧
    W.cell? ⟨S, 2, none⟩ = some (.slice A2 x.ends.length c2) ∧ kE4.C W A2 x.ends.length x.ends ∧ W.cell? ⟨S, 3, none⟩ = some (.slice A3 x.one.length c3) ∧ kPt.C W A3 x.one.length x.one := by
  obtain ⟨S, c, rfl, hc, ⟨a0, a1, rfl, ⟨A, cA, rfl, _, h0⟩, ⟨b0, b1, rfl, hb0, ⟨d0, d1, rfl, ⟨A2, c2, rfl, _, h2⟩, ⟨A3, c3, rfl, _, h3⟩⟩⟩⟩⟩ := h
  obtain rfl : b0 = [.int .i64 x.cnt] := hb0
  exact ⟨S, A, cA, A2, c2, A3, c3, rfl, hc 0 _ rfl, h0, hc 1 _ rfl, hc 2 _ rfl, h2, hc 3 _ rfl, h3⟩
theorem kSeen_types : ∀ q, q ∈ kSeen.E → q ≠ 72 ∧ q ≠ 75 := by decide
theorem R_setTy {α : Type} {d : Kd α} {e base g t n : Nat} {ok : Nat → Prop} {w : World} {v : Value} {xs : List α} (h : d.R e w base ok v xs) (hT : Ty w g t n) (ht : ∀ q, q ∈ e :: d.E → q ≠ t) (j : Nat) (u : Value) : d.R e (w.setCell ⟨g, j, none⟩ u) base ok v xs := by
  obtain ⟨cells, hc, _⟩ := hT
  exact Kd.R_set h hc ht j u
theorem seenR_types : ∀ q, q ∈ 75 :: kSeen.E → q ≠ 72 := by decide
theorem infoSeenP : (Try.prog.info? 75).map (fun i => (i.zero, i.size, i.bytes)) = some (some (.pointer none), 1, 8) := by kernel_rfl
/-- What look made is neither of the block of what is found, nor of the row of what is seen. -/
theorem seen_apart {W : World} {base bO e0 : Nat} {x : Seen} {cs : List Value} {v : Value} {n : Nat} {ys : List Value} (h : kSeen.M W base (fun _ => True) x cs) (hO : Ty W bO 72 2) (hv : W.ownsRow e0 75 1 v n ys) : kSeen.M W base (fun k => k ≠ bO ∧ some k ≠ v.ownBlock) x cs :=
  kSeen.M_mono (fun k hk => by
    obtain ⟨_, _, _, q, hq, cells, hc⟩ := hk
    obtain ⟨h1, h2⟩ := kSeen_types q hq
    refine ⟨fun e => ?_, fun e => ?_⟩
    · obtain ⟨c2, h3, _⟩ := hO
      rw [e, h3] at hc
      injection hc with hc
      injection hc with _ hc
      exact h1 hc.symm
    · obtain ⟨c2, h3⟩ := own_typed hv k e.symm
      rw [h3] at hc
      injection hc with hc
      injection hc with _ hc
      exact h2 hc.symm) (kSeen.M_bound h)

/-- The state of find's loop: what is seen of the first k parts. -/
structure FD (w W3 : World) (bO : Nat) (v : Value) (E : Bool) (xs : List Seen) (wr : World) : Prop where
  c0 : wr.cell? ⟨bO, 0, none⟩ = some (.bool E)
  c1 : wr.cell? ⟨bO, 1, none⟩ = some v
  R : kSeen.R 75 wr w.heap.size (fun j => j ≠ bO) v xs
  T : Ty wr bO 72 2
  B : Below W3.heap.size W3 wr
  o : ∀ j, v.ownBlock = some j → W3.heap.size ≤ j
  b : bO = W3.heap.size
section
variable {w W3 W W2 : World} {bO : Nat} {v v1 : Value} {E : Bool} {xs : List Seen}
theorem FD.below (h : FD w W3 bO v E xs W) (hb : Below W.heap.size W W2) : FD w W3 bO v E xs W2 :=
  ⟨(hb.cell (p := ⟨bO, 0, none⟩) (cell_lt h.c0)).trans h.c0, (hb.cell (p := ⟨bO, 1, none⟩) (cell_lt h.c1)).trans h.c1, Kd.R_below h.R hb, h.T.below hb, bstep' h.B hb, h.o, h.b⟩
theorem FD.flag (h : FD w W3 bO v E xs W) (E' : Bool) : FD w W3 bO v E' xs (W.setCell ⟨bO, 0, none⟩ (.bool E')) :=
  ⟨World.cell?_setCell_same' _ _ _ (by rw [h.c0]; rfl), cell_other h.c1 (by simp), Kd.R_far (p := ⟨bO, 0, none⟩) h.R (fun _ hk => hk) _, h.T.set, h.B.setCell (by have := h.b; dsimp only; omega) _, h.o, h.b⟩
theorem FD.push (h : FD w W3 bO v E xs W) {x : Seen} (hR : kSeen.R 75 W2 w.heap.size (fun j => j ≠ bO) v1 (xs ++ [x])) (hg : W.grownBy W2 v.ownBlock) (hat : v1.ownBlock = v.ownBlock ∨ ∃ b, v1.ownBlock = some b ∧ W.heap.size ≤ b) : FD w W3 bO v1 E (xs ++ [x]) (W2.setCell ⟨bO, 1, none⟩ v1) :=
  have hne : some bO ≠ v.ownBlock := fun e => h.R.1 _ e.symm rfl
  have hB : Below W3.heap.size W3 W2 := h.B.grown hg h.B.size (fun k hk => h.o k hk)
  ⟨cell_other (cell_grown hg h.c0 hne) (by simp), World.cell?_setCell_same' _ _ _ (by rw [cell_grown hg h.c1 hne]; rfl), Kd.R_far (p := ⟨bO, 1, none⟩) hR (fun _ hk => hk) _, (h.T.block (hg.block _ h.T.lt hne)).set, hB.setCell (by have := h.b; dsimp only; omega) _,
   fun j hj => by
     rcases hat with e | ⟨b, e, hb⟩
     · exact h.o j (e ▸ hj)
     · rw [e] at hj
       injection hj with hj
       have := h.B.size
       omega, h.b⟩
end
theorem any_step {fs : List Fct} {l : List Bx} {gs : List (List Int)} {k : Nat} (h : k < gs.length) : ((gs.take (k + 1)).map (seenP fs l)).any (fun s => s.cnt == 0) = (((gs.take k).map (seenP fs l)).any (fun s => s.cnt == 0) || (seenP fs l (rRow gs k)).cnt == 0) := by
  rw [take_get (z := []) h, List.map_append, List.any_append]
  simp [rRow]

set_option maxHeartbeats 3200000 in
set_option maxRecDepth 100000 in
theorem find_c (A1 A2 : Option Addr) (n nf c1 c2 : Nat) (bs : List Bx) (fs : List Fct) (w : World) (h1 : kBx.C w A1 n bs) (h2 : kFct.C w A2 nf fs) (hc : checkP ⟨bs, fs⟩ = 0) :
    Calls Try.prog 39 #[.agg #[.slice A1 n c1, .slice A2 nf c2]] w (FindPost w ⟨bs, fs⟩) := by
  obtain ⟨k1, k2, k3, k4⟩ := check_valid hc
  obtain ⟨_, _, m3, m4⟩ := check_zero hc
  dsimp only at m3 m4
  have HNE := Aside0.mk (ne_of_small m3)
  have HFM := Aside0.mk (fm_of m4)
  have HSM := Aside0.mk m3
  have hl1 := h1.1
  have hl2 := h2.1
  rw [hl1] at k1 k4
  rw [hl2] at k2
  have H1 := Aside0.mk h1
  have H2 := Aside0.mk h2
  have HV := Aside0.mk k3
  have HF := Aside0.mk k4
  have HL1 := Aside0.mk hl1
  have HL2 := Aside0.mk hl2
  clear h1 h2 hc k3 k4 m3 m4 hl1 hl2
  go_enter Try.func39, Try.ntmps39
  go_wp2_with fail
  generalize hW : ((w.alloc _).alloc _ : World) = W
  have e0 : W.cell? ⟨w.heap.size, 0, none⟩ = some (.slice A1 n c1) := by subst hW; go_simp
  have e1 : W.cell? ⟨w.heap.size, 1, none⟩ = some (.slice A2 nf c2) := by subst hW; go_simp
  have hT : Ty W (w.heap.size + 1) 72 2 := by subst hW; exact (by repeat (first | (with_reducible assumption) | (exact Ty.new3 (by first | (simp; done) | (simp; omega) | omega)) | (with_reducible refine Ty.old ?_) | (with_reducible refine Ty.set ?_) | (with_reducible refine Ty.drew ?_) | (with_reducible refine Ty.below ?_ (by assumption))))
  have r0 : W.cell? ⟨w.heap.size + 1, 0, none⟩ = some (.bool false) := by subst hW; go_simp
  have r1 : W.cell? ⟨w.heap.size + 1, 1, none⟩ = some (.slice none 0 0) := by subst hW; go_simp
  have hBW : Below w.heap.size w W := by subst hW; exact (by repeat (first | (with_reducible exact Below.refl _ _) | (with_reducible exact HB.out) | (with_reducible assumption) | (with_reducible apply below_alloc) | (with_reducible apply below_drew) | (with_reducible apply pw_below_drewN) | (with_reducible refine bstep' ?_ (by assumption)) | ((with_reducible refine Below.setCell ?_ ?_ _); rotate_left; (first | (dsimp only; omega) | (simp; done) | (simp; omega) | omega))))
  have hz : W.heap.size = w.heap.size + 1 + 1 := by subst hW; simp
  clear hW
  refine (narrow_c _ _ n nf _ _ bs fs _ (Kd.C_below H1.out hBW) (Kd.C_below H2.out hBW) HV.out HF.out k1 k2).mono ?_
  rintro e w1 hp
  have hb : Below W.heap.size W w1 := by
    rcases hp with ⟨_, _, _, _, _, _, h⟩ | ⟨_, _, h⟩ <;> exact h
  have e0 := (hb.cell (p := ⟨w.heap.size, 0, none⟩) (by dsimp only; omega)).trans e0
  have e1 := (hb.cell (p := ⟨w.heap.size, 1, none⟩) (by dsimp only; omega)).trans e1
  have r0 := (hb.cell (p := ⟨w.heap.size + 1, 0, none⟩) (by dsimp only; omega)).trans r0
  have r1 := (hb.cell (p := ⟨w.heap.size + 1, 1, none⟩) (by dsimp only; omega)).trans r1
  have hT := Ty.below hT hb
  have hfr := frozen_ty hT
  have HB1 := Aside0.mk (hBW.trans (hb.mono (by omega)))
  have hs1 := hb.size
  have hlt := hT.lt
  have hlt0 : w.heap.size < w1.heap.size := by omega
  rcases hp with ⟨l, v, rfl, hv, hN, hA, _⟩ | ⟨rfl, hE, _⟩
  · have HX := Aside0.mk (narrowP_some HNE.out HFM.out hN)
    have HSUB := Aside0.mk (hN.sub HNE.out)
    have HA := Aside0.mk hA
    have HLL := Aside0.mk (show l.length = n by rw [hN.len, HL1.out])
    obtain ⟨al, cl, rfl⟩ := Kd.R_slice hv
    have HR := Aside0.mk (Kd.R_lower hv (show w.heap.size ≤ _ by omega))
    rw [HLL.out] at HR ⊢
    clear hv hN hA hBW hb
    go_wp2_with fail
    refine (parts_c _ _ n nf _ _ fs _ (Kd.C_below H2.out HB1.out) HF.out k1 k2).mono ?_
    rintro e w2 ⟨v2, rfl, hv2, hb2⟩
    obtain ⟨ag, cg, rfl⟩ := Kd.R_slice hv2
    have HG2 := Aside0.mk (Kd.R_lower hv2 (show w.heap.size ≤ _ by omega))
    have HGL := Aside0.mk (partsP_len2 fs n)
    obtain ⟨G, hG⟩ : ∃ G, G = (partsP fs n).length := ⟨_, rfl⟩
    have HGG := Aside0.mk hG
    rw [← hG] at HG2 ⊢
    have hGn : G ≤ 12 := by have := HGL.out; omega
    clear hG
    have HS := Aside0.mk (sides_sub HSUB.out HSM.out)
    have HR2 := Aside0.mk (Kd.R_below HR.out hb2)
    have HB2 := Aside0.mk (bstep' HB1.out hb2)
    have e0 := (hb2.cell (p := ⟨w.heap.size, 0, none⟩) hlt0).trans e0
    have e1 := (hb2.cell (p := ⟨w.heap.size, 1, none⟩) hlt0).trans e1
    have r0 := (hb2.cell (p := ⟨w.heap.size + 1, 0, none⟩) hlt).trans r0
    have r1 := (hb2.cell (p := ⟨w.heap.size + 1, 1, none⟩) hlt).trans r1
    have hT := hT.below hb2
    have hlt := hT.lt
    have hlt0 : w.heap.size < w2.heap.size := by omega
    clear hv2 hb2 hfr
    go_wp2_with fail
    refine (volume_c _ _ n G _ _ l (partsP fs n) _ (row_C HR2.out).2 (by have := (row_C HG2.out).2; exact this) HS.out (fun g hg => partsP_mem hg) (by omega) (fun g hg => by have := partsP_len hg; omega)).mono ?_
    rintro e w3 ⟨rfl, hb3⟩
    have HR3 := Aside0.mk (Kd.R_below HR2.out hb3)
    have HG3 := Aside0.mk (Kd.R_below HG2.out hb3)
    have HB3 := Aside0.mk (bstep' HB2.out hb3)
    have e0 := (hb3.cell (p := ⟨w.heap.size, 0, none⟩) hlt0).trans e0
    have e1 := (hb3.cell (p := ⟨w.heap.size, 1, none⟩) hlt0).trans e1
    have r0 := (hb3.cell (p := ⟨w.heap.size + 1, 0, none⟩) hlt).trans r0
    have r1 := (hb3.cell (p := ⟨w.heap.size + 1, 1, none⟩) hlt).trans r1
    have hT := hT.below hb3
    have hlt := hT.lt
    have hlt0 : w.heap.size < w3.heap.size := by omega
    have hfr := frozen_ty hT
    clear hb3
    by_cases hvol : 65536 < volP l (partsP fs n)
    · have HVL := Aside0.mk (show findP ⟨bs, fs⟩ = ⟨false, [], 2⟩ by simp only [findP, HX.out]; rw [if_pos (by rw [HL1.out]; exact hvol)])
      go_wp2_with fail
      have hbx := HB3.out
      exact bodyPost_ret (v := .tuple #[.agg #[.bool false, .slice none 0 0], .int .i64 2]) (by simp [results, Try.results39, go_sem, *]) rfl ⟨.slice none 0 0, by rw [HVL.out], by rw [HVL.out]; exact Kd.R_nil _ _ _ _ _, (by repeat (first | (with_reducible exact Below.refl _ _) | (with_reducible exact HB.out) | (with_reducible assumption) | (with_reducible apply below_alloc) | (with_reducible apply below_drew) | (with_reducible apply pw_below_drewN) | (with_reducible refine bstep' ?_ (by assumption)) | ((with_reducible refine Below.setCell ?_ ?_ _); rotate_left; (first | (dsimp only; omega) | (simp; done) | (simp; omega) | omega))))⟩
    · have HVL := Aside0.mk (show findP ⟨bs, fs⟩ = ⟨((partsP fs n).map (seenP fs l)).any (fun s => s.cnt == 0), (partsP fs n).map (seenP fs l), 0⟩ by simp only [findP, HX.out]; rw [HL1.out, if_neg hvol])
      have HVV := Aside0.mk (show volP l (partsP fs n) ≤ 65536 by omega)
      go_wp2_with fail
      have HFD := Aside0.mk (FD.mk (w := w) (W3 := w3) (bO := w3.heap.size) (v := .slice none 0 0) (E := false) (xs := []) (wr := w3.alloc (.cells #[.bool false, .slice none 0 0] 72)) (by go_simp) (by go_simp) (Kd.R_nil _ _ _ _ _) ⟨_, heap_alloc_new _ _, rfl⟩ (below_alloc (Below.refl _ _) _) (fun j hj => by simp [Value.ownBlock] at hj) rfl)
      have HE0 := Aside0.mk e0
      have HE1 := Aside0.mk e1
      have HR0 := Aside0.mk r0
      have HR1 := Aside0.mk r1
      have HTR := Aside0.mk hT
      obtain ⟨bO, hbO⟩ : ∃ b, b = w3.heap.size := ⟨_, rfl⟩
      rw [← hbO] at HFD ⊢
      clear hvol e0 e1 r0 r1 hT hfr hbO
      go_loopg [28] G (fun m cnt wr => ∃ (k : Nat) (v : Value), k + m = G ∧ cnt = .int .i64 k ∧ Aside0 (FD w w3 bO v ((((partsP fs n).take k).map (seenP fs l)).any (fun s => s.cnt == 0)) (((partsP fs n).take k).map (seenP fs l)) wr))
      case atStart => exact ⟨0, .slice none 0 0, by omega, rfl, HFD⟩
      case round =>
        clear HFD
        obtain ⟨k, v, hk, rfl, HD⟩ := hrel
        by_cases hlt2 : k < G
        · have hbw := HD.out.B
          have hbs := hbw.size
          obtain ⟨g, A', c', hag, cg', hRk⟩ := row_elem (Kd.R_below HG3.out hbw) (j := k) (by have := HGG.out; omega)
          have hgp : rRow (partsP fs n) k ∈ partsP fs n := by unfold rRow; exact mem_get (by have := HGG.out; omega)
          have HGP := Aside0.mk hgp
          have HRK := Aside0.mk hRk
          have HST := Aside0.mk (any_step (fs := fs) (l := l) (gs := partsP fs n) (k := k) (by have := HGG.out; omega))
          have HTK := Aside0.mk (take_get (l := partsP fs n) (k := k) (z := []) (by have := HGG.out; omega))
          subst hag
          have e0 := (hbw.cell (p := ⟨w.heap.size, 0, none⟩) hlt0).trans HE0.out
          have e1 := (hbw.cell (p := ⟨w.heap.size, 1, none⟩) hlt0).trans HE1.out
          have hlt3 : w.heap.size < wr.heap.size := by omega
          have hpl := partsP_len HGP.out
          have hpp := partsP_pos HGP.out
          obtain ⟨pl, hpl2⟩ : ∃ x, x = (rRow (partsP fs n) k).length := ⟨_, rfl⟩
          have HPL := Aside0.mk hpl2
          rw [← hpl2] at HRK cg' hpl hpp
          clear hbw hRk hgp hpl2
          go_wp2_with fail
          refine (look_c _ _ _ _ n nf _ _ _ pl _ w.heap.size _ fs l (rRow (partsP fs n) k) (Kd.C_below H2.out (HB3.out.trans (HD.out.B.mono HB3.out.size))) (row_C (Kd.R_below HR3.out HD.out.B)).2 HRK.out (by omega) HF.out HA.out (partsP_nodup HGP.out) (partsP_mem HGP.out)
            (fun h1 => vol_part HS.out HGP.out (by rw [← HPL.out]; exact h1) (fun i hi => by rw [HLL.out]; exact partsP_mem HGP.out i hi) HVV.out) (by omega) hpp k1 k2).mono ?_
          rintro e w5 ⟨v5, rfl, hm5, hb5⟩
          obtain ⟨S, A9, c9, A10, c10, A11, c11, he, s0, _, s1, _⟩ := seen_cells (kSeen.K_of_M hm5)
          obtain rfl : v5 = .pointer (some ⟨S, 0, none⟩) := by simpa using he
          have HD5 := Aside0.mk (HD.out.below hb5)
          have HM5 := Aside0.mk (seen_apart hm5 HD5.out.T (Kd.R_own HD5.out.R).choose_spec)
          have o0 := HD5.out.c0
          have o1 := HD5.out.c1
          have hfz := frozen_ty HD5.out.T
          have hSb : S ≠ bO := by
            obtain ⟨S', _, e1, e2, _⟩ := HM5.out
            injection e1 with e1 _
            injection e1 with e1
            injection e1 with e1
            injection e1 with e1
            rw [e1]; exact e2.1
          clear hm5 hb5 he s0 e0 e1 hbs cg' HD
          obtain ⟨CN, hCN⟩ : ∃ x, x = (seenP fs l (rRow (partsP fs n) k)).cnt := ⟨_, rfl⟩
          rw [← hCN] at s1
          have HCN := Aside0.mk hCN
          clear hCN
          generalize hE0 : (((partsP fs n).take k).map (seenP fs l)).any (fun s => s.cnt == 0) = E at *
          have HEE := Aside0.mk hE0
          clear hE0
          have hlx : (((partsP fs n).take k).map (seenP fs l)).length ≤ k := by simp; omega
          generalize hxs : ((partsP fs n).take k).map (seenP fs l) = xs at *
          have HXS := Aside0.mk hxs
          clear hxs
          obtain ⟨E2, hE2⟩ : ∃ b, b = (E || (CN == 0)) := ⟨_, rfl⟩
          have HE2 := Aside0.mk hE2
          have HD6 := Aside0.mk (HD5.out.flag E2)
          have HM6 := Aside0.mk (kSeen.M_far (p := ⟨bO, 0, none⟩) HM5.out (fun _ hk => hk.1) (.bool E2))
          have o6 := HD6.out.c1
          have hlb := cell_lt o0
          cases E <;> cases hZ : (CN == 0)
          all_goals
            rw [hZ] at hE2
            have hE3 : E2 = _ := hE2
            simp only [Bool.false_or, Bool.true_or, Bool.or_true, Bool.or_false] at hE3
            subst hE3
            clear hE2
            go_wp2_with (at_builtin; refine Kd.R_append kSeen (w0 := w) w.heap.size rfl _ _ 70 75 (.pointer none) 8 rfl Try.underlying70 infoSeenP rfl (by decide) (by omega) v xs (seenP fs l (rRow (partsP fs n) k)) [.pointer (some ⟨S, 0, none⟩)] (fun j => j ≠ bO) (fun k => k ≠ bO ∧ some k ≠ v.ownBlock) rfl (by rw [World.size_setCell]; rfl) HM6.out (fun k h => h) (fun j hj => ?aF) HD6.out.R ?aB ?aS ?aL ?_; (case aF => have := HD6.out.T.lt; omega); (case aB => exact HB3.out.trans (HD6.out.B.mono HB3.out.size)); (case aS => have := HD6.out.B.size; have := HB3.out.size; omega); (case aL => omega); intro v1 w9 hv1 hb9 hg9 hat9; have HD9 := Aside0.mk (FD.push HD6.out hv1 hg9 hat9); have o9 := cell_grown hg9 o6 (fun e => HD6.out.R.1 _ e.symm rfl); have hf9 := frozen_ty (HD6.out.T.block (hg9.block _ HD6.out.T.lt (fun e => HD6.out.R.1 _ e.symm rfl))); obtain ⟨A12, c12, e12⟩ := Kd.R_slice hv1; clear hv1; obtain ⟨LL, hLL⟩ : ∃ x, x = (xs ++ [seenP fs l (rRow (partsP fs n) k)]).length := ⟨_, rfl⟩; rw [← hLL] at e12; clear hLL; subst e12)
            go_roundg (gk - 1)
            case measure => omega
            case rel => exact ⟨k + 1, _, by omega, by go_num, ⟨by rw [HST.out, HTK.out, List.map_append, HXS.out, ← HCN.out, ← HE2.out]; exact HD9.out⟩⟩
        · obtain rfl : gk = 0 := by omega
          obtain rfl : G = k := by omega
          rw [List.take_of_length_le (by have := HGG.out; omega)] at HD
          have hbw := HD.out.B
          have o0 := HD.out.c0
          have o1 := HD.out.c1
          obtain ⟨A13, c13, e13⟩ := Kd.R_slice HD.out.R
          obtain ⟨LL, hLL⟩ : ∃ x, x = ((partsP fs n).map (seenP fs l)).length := ⟨_, rfl⟩
          rw [← hLL] at e13
          subst e13
          have r0 := (hbw.cell (p := ⟨w.heap.size + 1, 0, none⟩) hlt).trans HR0.out
          have r1 := (hbw.cell (p := ⟨w.heap.size + 1, 1, none⟩) hlt).trans HR1.out
          have HTW := Aside0.mk (HTR.out.block (hbw.block _ hlt))
          have hfr := frozen_ty HTW.out
          have hbx := HB3.out.trans (hbw.mono HB3.out.size)
          have hne : w.heap.size + 1 ≠ bO := by have := HD.out.b; omega
          have HRO := Aside0.mk HD.out.R
          have HTO := Aside0.mk HD.out.T
          clear hbw HD hLL
          generalize hE0 : ((partsP fs n).map (seenP fs l)).any (fun s => s.cnt == 0) = E at *
          have HEE := Aside0.mk hE0
          clear hE0
          go_wp2_with fail
          exact bodyPost_ret (v := .tuple #[.agg #[.bool E, .slice A13 LL c13], .int .i64 0]) (by simp [results, Try.results39, go_sem, *]) rfl ⟨.slice A13 LL c13, by rw [HVL.out], by
            rw [HVL.out]
            exact Kd.R_mono (R_setTy (R_setTy HRO.out HTW.out seenR_types 0 _) HTW.out.set seenR_types 1 _) (fun _ _ => trivial), (by repeat (first | (with_reducible exact Below.refl _ _) | (with_reducible exact HB.out) | (with_reducible assumption) | (with_reducible apply below_alloc) | (with_reducible apply below_drew) | (with_reducible apply pw_below_drewN) | (with_reducible refine bstep' ?_ (by assumption)) | ((with_reducible refine Below.setCell ?_ ?_ _); rotate_left; (first | (dsimp only; omega) | (simp; done) | (simp; omega) | omega))))⟩
  · have HX := Aside0.mk (narrowP_none HNE.out HFM.out hE)
    clear hE hBW hb
    go_wp2_with fail
    have hbx := HB1.out
    exact bodyPost_ret (v := .tuple #[.agg #[.bool true, .slice none 0 0], .int .i64 0]) (by simp [results, Try.results39, go_sem, *]) rfl ⟨.slice none 0 0, by simp only [findP, HX.out], by simp only [findP, HX.out]; exact Kd.R_nil _ _ _ _ _, (by repeat (first | (with_reducible exact Below.refl _ _) | (with_reducible exact HB.out) | (with_reducible assumption) | (with_reducible apply below_alloc) | (with_reducible apply below_drew) | (with_reducible apply pw_below_drewN) | (with_reducible refine bstep' ?_ (by assumption)) | ((with_reducible refine Below.setCell ?_ ?_ _); rotate_left; (first | (dsimp only; omega) | (simp; done) | (simp; omega) | omega))))⟩

end Go.Proofs.Ytkkimlicabbooaa

/-
  solved, Count of package search.
-/
namespace Go.Proofs.Ytkkimlicabbooaa
open Go.RowKit Go.Proofs.YtkkimlicabbooaaW.PrintWords Bs
attribute [local go_sem] Later.cell? Later.frozen?
set_option linter.unusedVariables false
set_option linter.unusedSimpArgs false

def SolvedPost (w : World) (p : Prob) (e : Ending) (w' : World) : Prop :=
  ∃ v, e = .returned (.tuple #[.agg #[.bool (solvedP p).empty, v], .int .i64 (solvedP p).err]) ∧ kSeen.R 75 w' w.heap.size (fun _ => True) v (solvedP p).parts ∧ Below w.heap.size w w'

set_option maxHeartbeats 1600000 in
set_option maxRecDepth 100000 in
theorem solved_c (A1 A2 : Option Addr) (n nf c1 c2 : Nat) (bs : List Bx) (fs : List Fct) (w : World) (h1 : kBx.C w A1 n bs) (h2 : kFct.C w A2 nf fs) :
    Calls Try.prog 36 #[.agg #[.slice A1 n c1, .slice A2 nf c2]] w (SolvedPost w ⟨bs, fs⟩) := by
  have H1 := Aside0.mk h1
  have H2 := Aside0.mk h2
  clear h1 h2
  go_enter Try.func36, Try.ntmps36
  go_wp2_with fail
  generalize hW : ((w.alloc _).alloc _ : World) = W
  have e0 : W.cell? ⟨w.heap.size, 0, none⟩ = some (.slice A1 n c1) := by subst hW; go_simp
  have e1 : W.cell? ⟨w.heap.size, 1, none⟩ = some (.slice A2 nf c2) := by subst hW; go_simp
  have hT : Ty W (w.heap.size + 1) 72 2 := by subst hW; exact (by repeat (first | (with_reducible assumption) | (exact Ty.new3 (by first | (simp; done) | (simp; omega) | omega)) | (with_reducible refine Ty.old ?_) | (with_reducible refine Ty.set ?_) | (with_reducible refine Ty.drew ?_) | (with_reducible refine Ty.below ?_ (by assumption))))
  have r0 : W.cell? ⟨w.heap.size + 1, 0, none⟩ = some (.bool false) := by subst hW; go_simp
  have r1 : W.cell? ⟨w.heap.size + 1, 1, none⟩ = some (.slice none 0 0) := by subst hW; go_simp
  have HBW := Aside0.mk (show Below w.heap.size w W by subst hW; exact (by repeat (first | (with_reducible exact Below.refl _ _) | (with_reducible exact HB.out) | (with_reducible assumption) | (with_reducible apply below_alloc) | (with_reducible apply below_drew) | (with_reducible apply pw_below_drewN) | (with_reducible refine bstep' ?_ (by assumption)) | ((with_reducible refine Below.setCell ?_ ?_ _); rotate_left; (first | (dsimp only; omega) | (simp; done) | (simp; omega) | omega)))))
  have hz : W.heap.size = w.heap.size + 1 + 1 := by subst hW; simp
  clear hW
  refine (check_c _ _ n nf _ _ bs fs _ (Kd.C_below H1.out HBW.out) (Kd.C_below H2.out HBW.out)).mono ?_
  rintro e w1 ⟨rfl, hb⟩
  have e0 := (hb.cell (p := ⟨w.heap.size, 0, none⟩) (by dsimp only; omega)).trans e0
  have e1 := (hb.cell (p := ⟨w.heap.size, 1, none⟩) (by dsimp only; omega)).trans e1
  have r0 := (hb.cell (p := ⟨w.heap.size + 1, 0, none⟩) (by dsimp only; omega)).trans r0
  have r1 := (hb.cell (p := ⟨w.heap.size + 1, 1, none⟩) (by dsimp only; omega)).trans r1
  have hT := Ty.below hT hb
  have HB1 := Aside0.mk (HBW.out.trans (hb.mono (by omega)))
  have hs1 := hb.size
  have hlt := hT.lt
  clear hb
  by_cases hc : checkP ⟨bs, fs⟩ = 0
  · have hcb : (checkP ⟨bs, fs⟩ != 0) = false := by simp [hc]
    have hcb2 : (checkP ⟨bs, fs⟩ == 0) = true := by simp [hc]
    have HC := Aside0.mk hc
    clear hc
    go_wp2_with fail
    refine (find_c _ _ n nf _ _ bs fs _ (Kd.C_below H1.out HB1.out) (Kd.C_below H2.out HB1.out) HC.out).mono ?_
    rintro e w2 ⟨v, rfl, hv, hb⟩
    have r0 := (hb.cell (p := ⟨w.heap.size + 1, 0, none⟩) hlt).trans r0
    have r1 := (hb.cell (p := ⟨w.heap.size + 1, 1, none⟩) hlt).trans r1
    have hT := Ty.below hT hb
    have hfr := frozen_ty hT
    have HTW := Aside0.mk hT
    have hbx := HB1.out.trans (hb.mono HB1.out.size)
    have HR := Aside0.mk (Kd.R_lower hv (show w.heap.size ≤ _ by omega))
    obtain ⟨A3, c3, rfl⟩ := Kd.R_slice hv
    generalize (findP ⟨bs, fs⟩).parts.length = L at *
    have HS := Aside0.mk (show solvedP ⟨bs, fs⟩ = findP ⟨bs, fs⟩ by unfold solvedP; rw [if_pos HC.out])
    clear hv hb hT
    generalize hE0 : (findP ⟨bs, fs⟩).empty = E at *
    have HEE := Aside0.mk hE0
    clear hE0
    go_wp2_with fail
    exact bodyPost_ret (v := .tuple #[.agg #[.bool E, .slice A3 L c3], .int .i64 (findP ⟨bs, fs⟩).err]) (by simp [results, Try.results36, go_sem, *]) rfl ⟨.slice A3 L c3, by rw [HS.out, HEE.out], by
      rw [HS.out]
      exact Kd.R_mono (R_setTy (R_setTy HR.out HTW.out seenR_types 0 _) HTW.out.set seenR_types 1 _) (fun _ _ => trivial), (by repeat (first | (with_reducible exact Below.refl _ _) | (with_reducible exact HB.out) | (with_reducible assumption) | (with_reducible apply below_alloc) | (with_reducible apply below_drew) | (with_reducible apply pw_below_drewN) | (with_reducible refine bstep' ?_ (by assumption)) | ((with_reducible refine Below.setCell ?_ ?_ _); rotate_left; (first | (dsimp only; omega) | (simp; done) | (simp; omega) | omega))))⟩
  · have hcb : (checkP ⟨bs, fs⟩ != 0) = true := by simp [hc]
    have hcb2 : (checkP ⟨bs, fs⟩ == 0) = false := by simp [hc]
    have HS := Aside0.mk (show solvedP ⟨bs, fs⟩ = ⟨false, [], checkP ⟨bs, fs⟩⟩ by unfold solvedP; rw [if_neg hc])
    have hfr := frozen_ty hT
    have hbx := HB1.out
    clear hc
    go_wp2_with fail
    exact bodyPost_ret (v := .tuple #[.agg #[.bool false, .slice none 0 0], .int .i64 (checkP ⟨bs, fs⟩)]) (by simp [results, Try.results36, go_sem, *]) rfl ⟨.slice none 0 0, by rw [HS.out], by rw [HS.out]; exact Kd.R_nil _ _ _ _ _, (by repeat (first | (with_reducible exact Below.refl _ _) | (with_reducible exact HB.out) | (with_reducible assumption) | (with_reducible apply below_alloc) | (with_reducible apply below_drew) | (with_reducible apply pw_below_drewN) | (with_reducible refine bstep' ?_ (by assumption)) | ((with_reducible refine Below.setCell ?_ ?_ _); rotate_left; (first | (dsimp only; omega) | (simp; done) | (simp; omega) | omega))))⟩

end Go.Proofs.Ytkkimlicabbooaa

/-
  Count of package search.
-/
namespace Go.Proofs.Ytkkimlicabbooaa
open Go.RowKit Go.Proofs.YtkkimlicabbooaaW.PrintWords Bs
attribute [local go_sem] Later.cell? Later.frozen?
set_option linter.unusedVariables false
set_option linter.unusedSimpArgs false

/-- What is seen of the k-th part, in a row that is read. -/
theorem at_Seen {w : World} {A : Option Addr} {n : Nat} {xs : List Seen} (h : kSeen.C w A n xs) (k : Nat) (hk : k < n) : ∃ b off S a1 d1 a2 d2 a3 d3, A = some ⟨b, off, none⟩ ∧ b < w.heap.size ∧ w.cell? ⟨b, off + k, none⟩ = some (.pointer (some ⟨S, 0, none⟩)) ∧ S < w.heap.size ∧
    w.cell? ⟨S, 0, none⟩ = some (.slice a1 (rSeen xs k).part.length d1) ∧ kInt.C w a1 (rSeen xs k).part.length (rSeen xs k).part ∧ w.cell? ⟨S, 1, none⟩ = some (.int .i64 (rSeen xs k).cnt) ∧
    w.cell? ⟨S, 2, none⟩ = some (.slice a2 (rSeen xs k).ends.length d2) ∧ kE4.C w a2 (rSeen xs k).ends.length (rSeen xs k).ends ∧ w.cell? ⟨S, 3, none⟩ = some (.slice a3 (rSeen xs k).one.length d3) ∧ kPt.C w a3 (rSeen xs k).one.length (rSeen xs k).one := by
  obtain ⟨b, off, e, hb, hr⟩ := row_at (d := kSeen) (by decide) h (by omega)
  obtain ⟨c, _, hK, hc⟩ := hr k (rSeen xs k) (rd_some (by have := h.1; omega))
  obtain ⟨S, a1, d1, a2, d2, a3, d3, rfl, s0, h0, s1, s2, h2, s3, h3⟩ := seen_cells hK
  have h9 := hc 0 _ rfl
  exact ⟨b, off, S, a1, d1, a2, d2, a3, d3, e, hb, by simpa [kSeen, kdPtr] using h9, cell_lt s0, s0, h0, s1, s2, h2, s3, h3⟩

set_option maxHeartbeats 3200000 in
set_option maxRecDepth 100000 in
theorem count_c (A1 A2 : Option Addr) (n nf c1 c2 : Nat) (bs : List Bx) (fs : List Fct) (w : World) (h1 : kBx.C w A1 n bs) (h2 : kFct.C w A2 nf fs) :
    Calls Try.prog 15 #[.agg #[.slice A1 n c1, .slice A2 nf c2]] w fun e w' => e = .returned (.tuple #[.int .i64 (countP ⟨bs, fs⟩).1, .int .i64 (countP ⟨bs, fs⟩).2]) ∧ Below w.heap.size w w' := by
  have H1 := Aside0.mk h1
  have H2 := Aside0.mk h2
  clear h1 h2
  go_enter Try.func15, Try.ntmps15
  go_wp2_with fail
  refine (solved_c _ _ n nf _ _ bs fs _ (Kd.C_below H1.out (by repeat (first | (with_reducible exact Below.refl _ _) | (with_reducible exact HB.out) | (with_reducible apply below_alloc) | (with_reducible apply below_drew) | (with_reducible apply pw_below_drewN) | (with_reducible refine bstep' ?_ (by assumption)) | ((with_reducible refine Below.setCell ?_ ?_ _); rotate_left; (first | (dsimp only; omega) | (simp; done) | (simp; omega) | omega))))) (Kd.C_below H2.out (by repeat (first | (with_reducible exact Below.refl _ _) | (with_reducible exact HB.out) | (with_reducible apply below_alloc) | (with_reducible apply below_drew) | (with_reducible apply pw_below_drewN) | (with_reducible refine bstep' ?_ (by assumption)) | ((with_reducible refine Below.setCell ?_ ?_ _); rotate_left; (first | (dsimp only; omega) | (simp; done) | (simp; omega) | omega)))))).mono ?_
  rintro e w1 ⟨v, rfl, hv, hb⟩
  have HB1 := Aside0.mk (show Below w.heap.size w w1 from (by repeat (first | (with_reducible exact Below.refl _ _) | (with_reducible exact HB.out) | (with_reducible assumption) | (with_reducible apply below_alloc) | (with_reducible apply below_drew) | (with_reducible apply pw_below_drewN) | (with_reducible refine bstep' ?_ (by assumption)) | ((with_reducible refine Below.setCell ?_ ?_ _); rotate_left; (first | (dsimp only; omega) | (simp; done) | (simp; omega) | omega)))))
  obtain ⟨A3, c3, rfl⟩ := Kd.R_slice hv
  have HR := Aside0.mk (row_C hv).2
  have hb1 := HB1.out
  clear hv hb
  by_cases he : (solvedP ⟨bs, fs⟩).err = 0
  · obtain ⟨hc, hs⟩ := solved_ok he
    have heb : ((solvedP ⟨bs, fs⟩).err != 0) = false := by simp [he]
    have heb2 : ((solvedP ⟨bs, fs⟩).err == 0) = true := by simp [he]
    cases hE : (solvedP ⟨bs, fs⟩).empty with
    | true =>
      have HP := Aside0.mk (show countP ⟨bs, fs⟩ = (0, (solvedP ⟨bs, fs⟩).err) by unfold countP; simp only; rw [if_neg (by rw [hE]; simp)])
      clear he hc hs hE
      go_wp2_with fail
      go_ret2
      exact ⟨by rw [HP.out]; rfl, (by repeat (first | (with_reducible exact Below.refl _ _) | (with_reducible exact HB.out) | (with_reducible assumption) | (with_reducible apply below_alloc) | (with_reducible apply below_drew) | (with_reducible apply pw_below_drewN) | (with_reducible refine bstep' ?_ (by assumption)) | ((with_reducible refine Below.setCell ?_ ?_ _); rotate_left; (first | (dsimp only; omega) | (simp; done) | (simp; omega) | omega))))⟩
    | false =>
      have HP := Aside0.mk (show countP ⟨bs, fs⟩ = countGo 1 (solvedP ⟨bs, fs⟩).parts by unfold countP; simp only; rw [if_pos ⟨he, hE⟩])
      have HC1 := Aside0.mk (show ∀ s ∈ (solvedP ⟨bs, fs⟩).parts, 1 ≤ s.cnt by rw [hs] at hE ⊢; exact find_some hc hE)
      have hlen : (solvedP ⟨bs, fs⟩).parts.length ≤ 12 := by rw [hs]; have := find_len ⟨bs, fs⟩; have := (check_valid hc).1; dsimp only at *; omega
      clear he hc hs hE
      generalize (solvedP ⟨bs, fs⟩).parts = xs at *
      obtain ⟨L, hL⟩ : ∃ x, x = xs.length := ⟨_, rfl⟩
      have HL := Aside0.mk hL
      rw [← hL] at HR hlen ⊢
      clear hL
      go_wp2_with fail
      have HB2 := Aside0.mk (show Below w.heap.size w (w1.alloc (.cells #[.bool false, .slice A3 L c3] 72)) from (by repeat (first | (with_reducible exact Below.refl _ _) | (with_reducible exact HB.out) | (with_reducible assumption) | (with_reducible apply below_alloc) | (with_reducible apply below_drew) | (with_reducible apply pw_below_drewN) | (with_reducible refine bstep' ?_ (by assumption)) | ((with_reducible refine Below.setCell ?_ ?_ _); rotate_left; (first | (dsimp only; omega) | (simp; done) | (simp; omega) | omega)))))
      have HR2 := Aside0.mk (Kd.C_below HR.out (below_alloc (Below.refl w1.heap.size w1) (.cells #[.bool false, .slice A3 L c3] 72)))
      generalize (w1.alloc (.cells #[.bool false, .slice A3 L c3] 72)) = w2 at *
      clear hb1 HR HB1
      go_loopg [6, 24] L (fun m nv cnt wr => ∃ (k : Nat) (N : Int), k + m = L ∧ cnt = .int .i64 k ∧ nv = .int .i64 N ∧ 1 ≤ N ∧ N ≤ 4611686018427387904 ∧ Aside0 (countGo 1 xs = countGo N (xs.drop k)) ∧ Aside0 (Below w2.heap.size w2 wr))
      case atStart => exact ⟨0, 1, by omega, rfl, rfl, by omega, by omega, ⟨rfl⟩, ⟨Below.refl _ _⟩⟩
      case round =>
        obtain ⟨k, N, hk, rfl, rfl, hN1, hN2, HG, HB⟩ := hrel
        by_cases hlt : k < L
        · obtain ⟨b, off, S, _, _, _, _, _, _, rfl, hb, q0, hS, _, _, s1, _⟩ := at_Seen (Kd.C_below HR2.out HB.out) k hlt
          have HST := Aside0.mk (count_step (parts := xs) (k := k) (N := N) (by have := HL.out; omega))
          have hC := HC1.out (rSeen xs k) (by unfold rSeen; exact mem_get (by have := HL.out; omega))
          generalize (rSeen xs k).cnt = C at *
          have HBD := Aside0.mk (show C ≤ 4611686018427387904 / N → 1 ≤ N * C ∧ N * C ≤ 4611686018427387904 from fun h => count_bd hN1 hN2 hC (by omega))
          go_wp2_with fail
          by_cases hq : 4611686018427387904 / N < C
          · rw [if_pos hq] at HST
            (refine wp_region_quiet (C := fun w' => ∃ t : Later _, w' = t.w) (by kernel_rfl) (by kernel_rfl) (IsLater.drew _) ?_; (repeat (first | go_big_quiet_step (fail) | quiet_step (fail))); refine wpQuiet_nil ?_; rintro _ ⟨tq, rfl⟩)
            have hq2 := tq.h
            go_wp2_with fail
            go_ret2
            exact ⟨by rw [HP.out, HG.out, HST.out]; rfl, bstep' (bstep' HB2.out HB.out) hq2⟩
          · rw [if_neg hq] at HST
            obtain ⟨p1, p2⟩ := HBD.out (by omega)
            have hq3 : C ≤ 4611686018427387904 / N := by omega
            (refine wp_region_quiet (C := fun w' => ∃ t : Later _, w' = t.w) (by kernel_rfl) (by kernel_rfl) (IsLater.drew _) ?_; (repeat (first | go_big_quiet_step (fail) | quiet_step (fail))); refine wpQuiet_nil ?_; rintro _ ⟨tq, rfl⟩)
            have hq2 := tq.h
            have s1' := (hq2.cell (p := ⟨S, 1, none⟩) hS).trans s1
            go_wp2_with fail
            go_roundg (gk - 1)
            case measure => omega
            case rel => exact ⟨k + 1, N * C, by omega, by go_num, rfl, p1, p2, ⟨by rw [HG.out, HST.out]⟩, ⟨bstep' HB.out hq2⟩⟩
        · obtain rfl : k = L := by omega
          go_wp2_with fail
          go_ret2
          exact ⟨by rw [HP.out, HG.out, List.drop_of_length_le (by have := HL.out; omega)]; rfl, bstep' HB2.out HB.out⟩
  · have heb : ((solvedP ⟨bs, fs⟩).err != 0) = true := by simp [he]
    have heb2 : ((solvedP ⟨bs, fs⟩).err == 0) = false := by simp [he]
    have HP := Aside0.mk (show countP ⟨bs, fs⟩ = (0, (solvedP ⟨bs, fs⟩).err) by unfold countP; simp only; rw [if_neg (fun h => he h.1)])
    clear he
    go_wp2_with fail
    go_ret2
    exact ⟨by rw [HP.out]; rfl, (by repeat (first | (with_reducible exact Below.refl _ _) | (with_reducible exact HB.out) | (with_reducible assumption) | (with_reducible apply below_alloc) | (with_reducible apply below_drew) | (with_reducible apply pw_below_drewN) | (with_reducible refine bstep' ?_ (by assumption)) | ((with_reducible refine Below.setCell ?_ ?_ _); rotate_left; (first | (dsimp only; omega) | (simp; done) | (simp; omega) | omega))))⟩

end Go.Proofs.Ytkkimlicabbooaa

/-
  hull, Hull of package search.
-/
namespace Go.Proofs.Ytkkimlicabbooaa
open Go.RowKit Go.Proofs.YtkkimlicabbooaaW.PrintWords Bs
attribute [local go_sem] Later.cell? Later.frozen?
set_option linter.unusedVariables false
set_option linter.unusedSimpArgs false

/-- The four ends of a point, as they lie in memory. -/
theorem at_E4 {w : World} {A : Option Addr} {n : Nat} {xs : List E4} (h : kE4.C w A n xs) (k : Nat) (hk : k < n) : ∃ b off a0 c0 a1 c1 a2 c2 a3 c3, A = some ⟨b, off, none⟩ ∧ b < w.heap.size ∧
    w.cell? ⟨b, off + k * 4, none⟩ = some (.slice a0 (xs.getD k ([], [], [], [])).1.length c0) ∧ kPt.C w a0 (xs.getD k ([], [], [], [])).1.length (xs.getD k ([], [], [], [])).1 ∧
    w.cell? ⟨b, off + k * 4 + 1, none⟩ = some (.slice a1 (xs.getD k ([], [], [], [])).2.1.length c1) ∧ kPt.C w a1 (xs.getD k ([], [], [], [])).2.1.length (xs.getD k ([], [], [], [])).2.1 ∧
    w.cell? ⟨b, off + k * 4 + 2, none⟩ = some (.slice a2 (xs.getD k ([], [], [], [])).2.2.1.length c2) ∧ kPt.C w a2 (xs.getD k ([], [], [], [])).2.2.1.length (xs.getD k ([], [], [], [])).2.2.1 ∧
    w.cell? ⟨b, off + k * 4 + 3, none⟩ = some (.slice a3 (xs.getD k ([], [], [], [])).2.2.2.length c3) ∧ kPt.C w a3 (xs.getD k ([], [], [], [])).2.2.2.length (xs.getD k ([], [], [], [])).2.2.2 := by
  obtain ⟨b, off, e, hb, hr⟩ := row_at (d := kE4) (by decide) h (by omega)
  obtain ⟨c, _, ⟨k0, k1, rfl, ⟨a0, c0, rfl, _, h0⟩, ⟨k2, k3, rfl, ⟨a1, c1, rfl, _, h1⟩, ⟨k4, k5, rfl, ⟨a2, c2, rfl, _, h2⟩, ⟨a3, c3, rfl, _, h3⟩⟩⟩⟩, hc⟩ := hr k (xs.getD k ([], [], [], [])) (rd_some (by have := h.1; omega))
  have e : kE4.sz = 4 := rfl
  rw [e] at hc
  exact ⟨b, off, a0, c0, a1, c1, a2, c2, a3, c3, by assumption, hb, hc 0 _ rfl, h0, hc 1 _ rfl, h1, hc 2 _ rfl, h2, hc 3 _ rfl, h3⟩

set_option maxHeartbeats 3200000 in
set_option maxRecDepth 100000 in
theorem hull_c (b : Bool) (A : Option Addr) (n c : Nat) (xs : List Seen) (pt : Int) (w : World) (h : kSeen.C w A n xs) (hx : ∀ s ∈ xs, EndsOk s) (hn : n ≤ 12) :
    Calls Try.prog 37 #[.agg #[.bool b, .slice A n c], .int .i64 pt] w fun e w' => e = .returned (.tuple #[.agg #[.int .i64 (hullAt xs pt).1.x.lo, .int .i64 (hullAt xs pt).1.x.hi, .int .i64 (hullAt xs pt).1.y.lo, .int .i64 (hullAt xs pt).1.y.hi], .int .i64 (hullAt xs pt).2.1, .int .i64 (hullAt xs pt).2.2]) ∧ Below w.heap.size w w' := by
  have H := Aside0.mk h
  have HL := Aside0.mk h.1
  have HX := Aside0.mk hx
  clear h hx
  go_enter Try.func37, Try.ntmps37
  go_wp2_with fail
  generalize hW : ((w.alloc _).alloc _ : World) = W
  have HB := Aside0.mk (show Below w.heap.size w W by subst hW; exact (by repeat (first | (with_reducible exact Below.refl _ _) | (with_reducible exact HB.out) | (with_reducible assumption) | (with_reducible apply below_alloc) | (with_reducible apply below_drew) | (with_reducible apply pw_below_drewN) | (with_reducible refine bstep' ?_ (by assumption)) | ((with_reducible refine Below.setCell ?_ ?_ _); rotate_left; (first | (dsimp only; omega) | (simp; done) | (simp; omega) | omega)))))
  have hT : Ty W (w.heap.size + 1) 42 4 := by subst hW; exact (by repeat (first | (with_reducible assumption) | (exact Ty.new3 (by first | (simp; done) | (simp; omega) | omega)) | (with_reducible refine Ty.old ?_) | (with_reducible refine Ty.set ?_) | (with_reducible refine Ty.drew ?_) | (with_reducible refine Ty.below ?_ (by assumption))))
  have r0 : W.cell? ⟨w.heap.size + 1, 0, none⟩ = some (.int .i64 0) := by subst hW; go_simp
  have r1 : W.cell? ⟨w.heap.size + 1, 1, none⟩ = some (.int .i64 0) := by subst hW; go_simp
  have r2 : W.cell? ⟨w.heap.size + 1, 2, none⟩ = some (.int .i64 0) := by subst hW; go_simp
  have r3 : W.cell? ⟨w.heap.size + 1, 3, none⟩ = some (.int .i64 0) := by subst hW; go_simp
  have HT := Aside0.mk hT
  have R0 := Aside0.mk r0
  have R1 := Aside0.mk r1
  have R2 := Aside0.mk r2
  have R3 := Aside0.mk r3
  have hlt := hT.lt
  have HC := Aside0.mk (Kd.C_below H.out HB.out)
  clear hW hT r0 r1 r2 r3
  go_loopg [14] n (fun m cnt wr => ∃ k : Nat, k + m = n ∧ cnt = .int .i64 k ∧ Aside0 (hullAt xs pt = hullGo pt (xs.drop k) k) ∧ Aside0 (Below W.heap.size W wr))
  case atStart => exact ⟨0, by omega, rfl, ⟨rfl⟩, ⟨Below.refl _ _⟩⟩
  case round =>
    obtain ⟨k, hk, rfl, HG, HB2⟩ := hrel
    have hb2 := HB2.out
    have r0 := (hb2.cell (p := ⟨w.heap.size + 1, 0, none⟩) hlt).trans R0.out
    have r1 := (hb2.cell (p := ⟨w.heap.size + 1, 1, none⟩) hlt).trans R1.out
    have r2 := (hb2.cell (p := ⟨w.heap.size + 1, 2, none⟩) hlt).trans R2.out
    have r3 := (hb2.cell (p := ⟨w.heap.size + 1, 3, none⟩) hlt).trans R3.out
    have hT := HT.out.below hb2
    have hlt2 := hT.lt
    have hfz := frozen_ty hT
    have HBW := Aside0.mk (HB.out.trans (hb2.mono HB.out.size))
    clear hb2 hT
    by_cases hltk : k < n
    · obtain ⟨ba, off, S, a1, d1, a2, d2, a3, d3, rfl, hb, q0, hS, s0, hP, s1, s2, hE, s3, hO⟩ := at_Seen H.out k hltk
      have hxe := HX.out (rSeen xs k) (by unfold rSeen; exact mem_get (by have := HL.out; omega))
      obtain ⟨he1, he2, he3⟩ := hxe
      have HPP := Aside0.mk (Kd.C_below hP HBW.out)
      have HEE := Aside0.mk hE
      have HE3 := Aside0.mk he3
      have hbw := HBW.out
      have hbws := hbw.size
      have q0 := (hbw.cell (p := ⟨ba, off + k, none⟩) hb).trans q0
      have s0 := (hbw.cell (p := ⟨S, 0, none⟩) hS).trans s0
      have s2 := (hbw.cell (p := ⟨S, 2, none⟩) hS).trans s2
      have hb' : ba < wr.heap.size := by omega
      have hS' : S < wr.heap.size := by omega
      clear hbw
      have HST := Aside0.mk (show hullGo pt (xs.drop k) k = if 0 ≤ idxP (rSeen xs k).part pt then (boxAt (rSeen xs k) (idxP (rSeen xs k).part pt), (k : Int), idxP (rSeen xs k).part pt) else hullGo pt (xs.drop (k + 1)) ((k + 1 : Nat) : Int) by rw [drop_get (z := ⟨[], 0, [], []⟩) (by have := HL.out; omega)]; rfl)
      rcases idxP_cases (rSeen xs k).part pt with ⟨h1, _⟩ | ⟨h1, h2, _⟩
      · have hneg : ¬ 0 ≤ idxP (rSeen xs k).part pt := by omega
        rw [if_neg hneg] at HST
        have hdg : decide (0 ≤ idxP (rSeen xs k).part pt) = false := by simpa using hneg
        clear h1 hE hO hP he3 s1 s2 s3
        go_wp2_with (go_at_call 63; refine (index_c _ _ _ _ pt _ HPP.out (by omega)).mono ?_; rintro e w5 ⟨rfl, hb5⟩)
        go_roundg (gk - 1)
        case measure => omega
        case rel => exact ⟨k + 1, by omega, by go_num, ⟨by rw [HG.out, HST.out]⟩, ⟨bstep' HB2.out hb5⟩⟩
      · rw [if_pos h1] at HST
        obtain ⟨q, hq⟩ := Int.eq_ofNat_of_zero_le h1
        have HQ := Aside0.mk hq
        have hql : q < (rSeen xs k).ends.length := by omega
        obtain ⟨be, oe, b0, g0, b1, g1, b2, g2, b3, g3, rfl, hbe, t0, p0, t1, p1, t2, p2, t3, p3⟩ := at_E4 hE q hql
        have hem := HE3.out ((rSeen xs k).ends.getD q ([], [], [], [])) (mem_get hql)
        have HBX := Aside0.mk (show boxAt (rSeen xs k) (q : Int) = ⟨⟨(rPt ((rSeen xs k).ends.getD q ([], [], [], [])).1 (q : Int)).x, (rPt ((rSeen xs k).ends.getD q ([], [], [], [])).2.1 (q : Int)).x⟩, ⟨(rPt ((rSeen xs k).ends.getD q ([], [], [], [])).2.2.1 (q : Int)).y, (rPt ((rSeen xs k).ends.getD q ([], [], [], [])).2.2.2 (q : Int)).y⟩⟩ from rfl)
        generalize (rSeen xs k).ends.getD q ([], [], [], []) = E at *
        obtain ⟨m0, m1, m2, m3⟩ := hem
        have hq0 : (q : Int) < E.1.length := by omega
        have hq1 : (q : Int) < E.2.1.length := by omega
        have hq2 : (q : Int) < E.2.2.1.length := by omega
        have hq3 : (q : Int) < E.2.2.2.length := by omega
        obtain ⟨e0, f0, rfl, l0, x0, y0⟩ := at_Pt p0 (q : Int) (by omega) hq0
        obtain ⟨e1, f1, rfl, l1, x1, y1⟩ := at_Pt p1 (q : Int) (by omega) hq1
        obtain ⟨e2, f2, rfl, l2, x2, y2⟩ := at_Pt p2 (q : Int) (by omega) hq2
        obtain ⟨e3, f3, rfl, l3, x3, y3⟩ := at_Pt p3 (q : Int) (by omega) hq3
        simp only [Int.toNat_natCast] at x0 y0 x1 y1 x2 y2 x3 y3
        have hbw := HBW.out
        have t0 := (hbw.cell (p := ⟨be, _, none⟩) hbe).trans t0
        have t1 := (hbw.cell (p := ⟨be, _, none⟩) hbe).trans t1
        have t2 := (hbw.cell (p := ⟨be, _, none⟩) hbe).trans t2
        have t3 := (hbw.cell (p := ⟨be, _, none⟩) hbe).trans t3
        have x0 := (hbw.cell (p := ⟨e0, _, none⟩) l0).trans x0
        have x1 := (hbw.cell (p := ⟨e1, _, none⟩) l1).trans x1
        have y2 := (hbw.cell (p := ⟨e2, _, none⟩) l2).trans y2
        have y3 := (hbw.cell (p := ⟨e3, _, none⟩) l3).trans y3
        have n0 : e0 ≠ w.heap.size + 1 := by omega
        have n1 : e1 ≠ w.heap.size + 1 := by omega
        have n2 : e2 ≠ w.heap.size + 1 := by omega
        have n3 : e3 ≠ w.heap.size + 1 := by omega
        have l0 : e0 < wr.heap.size := by omega
        have l1 : e1 < wr.heap.size := by omega
        have l2 : e2 < wr.heap.size := by omega
        have l3 : e3 < wr.heap.size := by omega
        have hbe' : be < wr.heap.size := by omega
        clear hE hO hP he3 s1 s3 p0 p1 p2 p3 hbw m0 m1 m2 m3
        go_wp2_with (go_at_call 63; refine (index_c _ _ _ _ pt _ HPP.out (by omega)).mono ?_; rintro e w5 ⟨rfl, hb5⟩; rw [HQ.out]; obtain ⟨hc5, hf5, hz5⟩ := bcell hb5; have z0 : S < w5.heap.size := (by omega); have z1 : be < w5.heap.size := (by omega))
        generalize hW7 : (w5.alloc _ : World) = W7
        have hb7 : Below wr.heap.size wr W7 := by subst hW7; exact (by repeat (first | (with_reducible exact Below.refl _ _) | (with_reducible exact HB.out) | (with_reducible assumption) | (with_reducible apply below_alloc) | (with_reducible apply below_drew) | (with_reducible apply pw_below_drewN) | (with_reducible refine bstep' ?_ (by assumption)) | ((with_reducible refine Below.setCell ?_ ?_ _); rotate_left; (first | (dsimp only; omega) | (simp; done) | (simp; omega) | omega))))
        have tq0 : W7.cell? ⟨w5.heap.size, 0, none⟩ = some (.slice (some ⟨e0, f0, none⟩) E.1.length g0) := by subst hW7; go_simp
        have tq1 : W7.cell? ⟨w5.heap.size, 1, none⟩ = some (.slice (some ⟨e1, f1, none⟩) E.2.1.length g1) := by subst hW7; go_simp
        have tq2 : W7.cell? ⟨w5.heap.size, 2, none⟩ = some (.slice (some ⟨e2, f2, none⟩) E.2.2.1.length g2) := by subst hW7; go_simp
        have tq3 : W7.cell? ⟨w5.heap.size, 3, none⟩ = some (.slice (some ⟨e3, f3, none⟩) E.2.2.2.length g3) := by subst hW7; go_simp
        have hsz7 : W7.heap.size = w5.heap.size + 1 := by subst hW7; simp
        have j0 := (hb7.cell (p := ⟨w.heap.size + 1, 0, none⟩) hlt2).trans r0
        have j1 := (hb7.cell (p := ⟨w.heap.size + 1, 1, none⟩) hlt2).trans r1
        have j2 := (hb7.cell (p := ⟨w.heap.size + 1, 2, none⟩) hlt2).trans r2
        have j3 := (hb7.cell (p := ⟨w.heap.size + 1, 3, none⟩) hlt2).trans r3
        have jf : ∀ o, W7.frozen? ⟨w.heap.size + 1, o, none⟩ = false := fun o => (hb7.frozen (p := ⟨w.heap.size + 1, o, none⟩) hlt2).trans (hfz o)
        have x0 := (hb7.cell (p := ⟨e0, _, none⟩) l0).trans x0
        have x1 := (hb7.cell (p := ⟨e1, _, none⟩) l1).trans x1
        have y2 := (hb7.cell (p := ⟨e2, _, none⟩) l2).trans y2
        have y3 := (hb7.cell (p := ⟨e3, _, none⟩) l3).trans y3
        have b7 := hb7.size
        have l0 : e0 < W7.heap.size := by omega
        have l1 : e1 < W7.heap.size := by omega
        have l2 : e2 < W7.heap.size := by omega
        have l3 : e3 < W7.heap.size := by omega
        have l4 : w.heap.size + 1 < W7.heap.size := by omega
        have l5 : w5.heap.size < W7.heap.size := by omega
        have n4 : w5.heap.size ≠ w.heap.size + 1 := by omega
        have HB7 := Aside0.mk (HBW.out.trans (hb7.mono (by omega)))
        clear hW7 hb7 hsz7 hc5 hf5 hz5 hb5 r0 r1 r2 r3 hfz t0 t1 t2 t3 s0 s2 q0
        go_wp2_with fail
        go_region_held3 (fun w' => (∀ b o, b < W7.heap.size → (b ≠ w.heap.size + 1) → w'.cell? ⟨b, o, none⟩ = W7.cell? ⟨b, o, none⟩) ∧ W7.heap.size ≤ w'.heap.size) (first | (repeat (first | (with_reducible assumption) | (with_reducible exact SB_refl _ _) | (with_reducible apply SB_drew) | (with_reducible refine SB_below ?_ (by assumption)) | ((with_reducible refine SB_set ?_ ?_ _); rotate_left; (focus (simp; done))) | ((with_reducible refine SB_new ?_ ?_ _); rotate_left; (first | (dsimp only; omega) | (simp; done) | (simp; omega) | omega)) | (with_reducible apply SB_alloc)))) ((first | fail))
        all_goals (go_wp2_with fail)
        all_goals have hbx := HB7.out
        all_goals exact bodyPost_ret (v := .tuple #[.agg #[.int .i64 (rPt E.1 (q : Int)).x, .int .i64 (rPt E.2.1 (q : Int)).x, .int .i64 (rPt E.2.2.1 (q : Int)).y, .int .i64 (rPt E.2.2.2 (q : Int)).y], .int .i64 (k : Int), .int .i64 (q : Int)]) (by simp [results, Try.results37, go_sem, *]) rfl ⟨by rw [HG.out, HST.out, HQ.out, HBX.out], (by repeat (first | (with_reducible exact Below.refl _ _) | (with_reducible exact HB.out) | (with_reducible assumption) | (with_reducible apply below_alloc) | (with_reducible apply below_drew) | (with_reducible apply pw_below_drewN) | (with_reducible refine bstep' ?_ (by assumption)) | ((with_reducible refine Below.setCell ?_ ?_ _); rotate_left; (first | (dsimp only; omega) | (simp; done) | (simp; omega) | omega))))⟩
    · obtain rfl : k = n := by omega
      have hbx := HBW.out
      have HF := Aside0.mk (show hullAt xs pt = (⟨⟨0, 0⟩, ⟨0, 0⟩⟩, -1, -1) by rw [HG.out, List.drop_of_length_le (by have := HL.out; omega)]; rfl)
      go_wp2_with fail
      exact bodyPost_ret (v := .tuple #[.agg #[.int .i64 0, .int .i64 0, .int .i64 0, .int .i64 0], .int .i64 (-1), .int .i64 (-1)]) (by simp [results, Try.results37, go_sem, *]) rfl ⟨by rw [HF.out], (by repeat (first | (with_reducible exact Below.refl _ _) | (with_reducible exact HB.out) | (with_reducible assumption) | (with_reducible apply below_alloc) | (with_reducible apply below_drew) | (with_reducible apply pw_below_drewN) | (with_reducible refine bstep' ?_ (by assumption)) | ((with_reducible refine Below.setCell ?_ ?_ _); rotate_left; (first | (dsimp only; omega) | (simp; done) | (simp; omega) | omega))))⟩

end Go.Proofs.Ytkkimlicabbooaa

/-
  Hull of package search.
-/
namespace Go.Proofs.Ytkkimlicabbooaa
open Go.RowKit Go.Proofs.YtkkimlicabbooaaW.PrintWords Bs
attribute [local go_sem] Later.cell? Later.frozen?
set_option linter.unusedVariables false
set_option linter.unusedSimpArgs false

set_option maxHeartbeats 3200000 in
set_option maxRecDepth 100000 in
theorem hullAll_c (A1 A2 : Option Addr) (n nf c1 c2 : Nat) (bs : List Bx) (fs : List Fct) (w : World) (h1 : kBx.C w A1 n bs) (h2 : kFct.C w A2 nf fs) :
    Calls Try.prog 19 #[.agg #[.slice A1 n c1, .slice A2 nf c2]] w fun e w' => ∃ v, e = .returned (.tuple #[v, .int .i64 (hullP ⟨bs, fs⟩).2]) ∧ kBx.R 42 w' w.heap.size (fun _ => True) v (hullP ⟨bs, fs⟩).1 ∧ Below w.heap.size w w' := by
  have H1 := Aside0.mk h1
  have H2 := Aside0.mk h2
  have HL1 := Aside0.mk h1.1
  clear h1 h2
  go_enter Try.func19, Try.ntmps19
  go_wp2_with fail
  generalize hW : (w.alloc _ : World) = W
  have e0 : W.cell? ⟨w.heap.size, 0, none⟩ = some (.slice A1 n c1) := by subst hW; go_simp
  have HBW := Aside0.mk (show Below w.heap.size w W by subst hW; exact (by repeat (first | (with_reducible exact Below.refl _ _) | (with_reducible exact HB.out) | (with_reducible assumption) | (with_reducible apply below_alloc) | (with_reducible apply below_drew) | (with_reducible apply pw_below_drewN) | (with_reducible refine bstep' ?_ (by assumption)) | ((with_reducible refine Below.setCell ?_ ?_ _); rotate_left; (first | (dsimp only; omega) | (simp; done) | (simp; omega) | omega)))))
  have hz : W.heap.size = w.heap.size + 1 := by subst hW; simp
  clear hW
  refine (solved_c _ _ n nf _ _ bs fs _ (Kd.C_below H1.out HBW.out) (Kd.C_below H2.out HBW.out)).mono ?_
  rintro e w1 ⟨v, rfl, hv, hb⟩
  have e0 := (hb.cell (p := ⟨w.heap.size, 0, none⟩) (by dsimp only; omega)).trans e0
  have HB1 := Aside0.mk (HBW.out.trans (hb.mono (by omega)))
  have hlt : w.heap.size < w1.heap.size := by have := hb.size; omega
  obtain ⟨A3, c3, rfl⟩ := Kd.R_slice hv
  have HR := Aside0.mk (row_C hv).2
  have hb1 := HB1.out
  clear hv hb
  by_cases he : (solvedP ⟨bs, fs⟩).err = 0
  · obtain ⟨hc, hs⟩ := solved_ok he
    have heb : ((solvedP ⟨bs, fs⟩).err != 0) = false := by simp [he]
    have heb2 : ((solvedP ⟨bs, fs⟩).err == 0) = true := by simp [he]
    cases hE : (solvedP ⟨bs, fs⟩).empty with
    | true =>
      have HP := Aside0.mk (show hullP ⟨bs, fs⟩ = ([], 9) by unfold hullP; simp only; rw [if_pos he, if_pos hE])
      clear he hc hs hE
      go_wp2_with fail
      go_ret2
      exact ⟨.slice none 0 0, by rw [HP.out]; rfl, by rw [HP.out]; exact Kd.R_nil _ _ _ _ _, (by repeat (first | (with_reducible exact Below.refl _ _) | (with_reducible exact HB.out) | (with_reducible assumption) | (with_reducible apply below_alloc) | (with_reducible apply below_drew) | (with_reducible apply pw_below_drewN) | (with_reducible refine bstep' ?_ (by assumption)) | ((with_reducible refine Below.setCell ?_ ?_ _); rotate_left; (first | (dsimp only; omega) | (simp; done) | (simp; omega) | omega))))⟩
    | false =>
      have HP := Aside0.mk (show hullP ⟨bs, fs⟩ = (hullTo ⟨bs, fs⟩ n, 0) by unfold hullP; simp only; rw [if_pos he, if_neg (by rw [hE]; simp)]; simp only [HL1.out]; rfl)
      have HEN := Aside0.mk (show ∀ s ∈ (solvedP ⟨bs, fs⟩).parts, EndsOk s by rw [hs] at hE ⊢; exact find_ends hc hE)
      have hlen : (solvedP ⟨bs, fs⟩).parts.length ≤ 12 := by rw [hs]; have := find_len ⟨bs, fs⟩; have := (check_valid hc).1; dsimp only at *; omega
      have hn12 : n ≤ 12 := by have := (check_valid hc).1; have := HL1.out; omega
      clear he hc hs hE
      have HT := Aside0.mk (hullTo_succ ⟨bs, fs⟩)
      have HTL := Aside0.mk (hullTo_length ⟨bs, fs⟩)
      generalize (solvedP ⟨bs, fs⟩).parts = xs at *
      generalize hullTo ⟨bs, fs⟩ = ht at *
      obtain ⟨L, hL⟩ : ∃ x, x = xs.length := ⟨_, rfl⟩
      have HL := Aside0.mk hL
      rw [← hL] at HR hlen ⊢
      clear hL
      go_wp2_with fail
      generalize hW2 : (w1.alloc _ : World) = w2
      have f0 : w2.cell? ⟨w1.heap.size, 0, none⟩ = some (.bool false) := by subst hW2; go_simp
      have f1 : w2.cell? ⟨w1.heap.size, 1, none⟩ = some (.slice A3 L c3) := by subst hW2; go_simp
      have hb2 : Below w1.heap.size w1 w2 := by subst hW2; exact (by repeat (first | (with_reducible exact Below.refl _ _) | (with_reducible exact HB.out) | (with_reducible assumption) | (with_reducible apply below_alloc) | (with_reducible apply below_drew) | (with_reducible apply pw_below_drewN) | (with_reducible refine bstep' ?_ (by assumption)) | ((with_reducible refine Below.setCell ?_ ?_ _); rotate_left; (first | (dsimp only; omega) | (simp; done) | (simp; omega) | omega))))
      have HB2 := Aside0.mk (bstep' hb1 hb2)
      have HR2 := Aside0.mk (Kd.C_below HR.out hb2)
      have F0 := Aside0.mk f0
      have F1 := Aside0.mk f1
      have hl2 := cell_lt f0
      have hle := HB2.out.size
      clear hW2 hb2 hb1 e0 f0 f1
      obtain ⟨bF, hbF⟩ : ∃ b, b = w1.heap.size := ⟨_, rfl⟩
      rw [← hbF] at F0 F1 hl2 ⊢
      clear hbF
      go_loopg [6, 26] n (fun m v cnt wr => ∃ k : Nat, k + m = n ∧ cnt = .int .i64 k ∧ Aside0 (kBx.R 42 wr w2.heap.size (fun _ => True) v (ht k)) ∧ Aside0 (Below w2.heap.size w2 wr))
      case atStart => exact ⟨0, by omega, rfl, ⟨by have := HTL.out 0; rw [List.eq_nil_of_length_eq_zero this]; exact Kd.R_nil _ _ _ _ _⟩, ⟨Below.refl _ _⟩⟩
      case round =>
        obtain ⟨k, hk, rfl, HO, HB⟩ := hrel
        by_cases hltk : k < n
        · have f0 := (HB.out.cell (p := ⟨bF, 0, none⟩) hl2).trans F0.out
          have f1 := (HB.out.cell (p := ⟨bF, 1, none⟩) hl2).trans F1.out
          have hs2 := HB.out.size
          have HLK := Aside0.mk (HTL.out k)
          go_wp2_with (first | (go_at_call 37; go_must (refine (hull_c _ _ L _ xs (k : Int) _ (Kd.C_below HR2.out HB.out) HEN.out hlen).mono ?_; rintro e w5 ⟨rfl, hb5⟩; have HB5 := Aside0.mk (bstep' HB.out hb5); have HO5 := Aside0.mk (Kd.R_below HO.out hb5); clear hb5)) | (at_builtin; go_must (refine Kd.R_append kBx (w0 := w2) w2.heap.size rfl _ _ 22 42 (.agg #[.int .i64 0, .int .i64 0, .int .i64 0, .int .i64 0]) 32 rfl Try.underlying22 infoBx rfl (by decide) (by omega) u6 (ht k) (hullAt xs (k : Int)).1 (encBx (hullAt xs (k : Int)).1) (fun _ => True) (fun _ => False) rfl (by rw [World.size_alloc]; rfl) rfl (fun _ h => h.elim) (fun _ _ => trivial) (Kd.R_below HO5.out (by repeat (first | (with_reducible exact Below.refl _ _) | (with_reducible exact HB.out) | (with_reducible assumption) | (with_reducible apply below_alloc) | (with_reducible apply below_drew) | (with_reducible apply pw_below_drewN) | (with_reducible refine bstep' ?_ (by assumption)) | ((with_reducible refine Below.setCell ?_ ?_ _); rotate_left; (first | (dsimp only; omega) | (simp; done) | (simp; omega) | omega))))) (bstep' HB5.out (by repeat (first | (with_reducible exact Below.refl _ _) | (with_reducible exact HB.out) | (with_reducible assumption) | (with_reducible apply below_alloc) | (with_reducible apply below_drew) | (with_reducible apply pw_below_drewN) | (with_reducible refine bstep' ?_ (by assumption)) | ((with_reducible refine Below.setCell ?_ ?_ _); rotate_left; (first | (dsimp only; omega) | (simp; done) | (simp; omega) | omega))))) ?aS ?aL ?_; (case aS => exact (Below.size (show Below w2.heap.size w2 _ from bstep' HB5.out (by repeat (first | (with_reducible exact Below.refl _ _) | (with_reducible exact HB.out) | (with_reducible assumption) | (with_reducible apply below_alloc) | (with_reducible apply below_drew) | (with_reducible apply pw_below_drewN) | (with_reducible refine bstep' ?_ (by assumption)) | ((with_reducible refine Below.setCell ?_ ?_ _); rotate_left; (first | (dsimp only; omega) | (simp; done) | (simp; omega) | omega))))))); (case aL => have := HLK.out; omega); intro v1 w9 hv1 hb9 _ _)))
          go_roundg (gk - 1)
          case measure => omega
          case rel => exact ⟨k + 1, by omega, by go_num, ⟨by rw [HT.out k]; exact hv1⟩, ⟨hb9⟩⟩
        · obtain rfl : gk = 0 := by omega
          obtain rfl : n = k := by omega
          go_wp2_with fail
          go_ret2
          exact ⟨u6, by rw [HP.out]; rfl, by rw [HP.out]; exact Kd.R_lower HO.out (by omega), bstep' HB2.out HB.out⟩
  · have heb : ((solvedP ⟨bs, fs⟩).err != 0) = true := by simp [he]
    have heb2 : ((solvedP ⟨bs, fs⟩).err == 0) = false := by simp [he]
    have HP := Aside0.mk (show hullP ⟨bs, fs⟩ = ([], (solvedP ⟨bs, fs⟩).err) by unfold hullP; simp only; rw [if_neg he])
    clear he
    go_wp2_with fail
    go_ret2
    exact ⟨.slice none 0 0, by rw [HP.out]; rfl, by rw [HP.out]; exact Kd.R_nil _ _ _ _ _, (by repeat (first | (with_reducible exact Below.refl _ _) | (with_reducible exact HB.out) | (with_reducible assumption) | (with_reducible apply below_alloc) | (with_reducible apply below_drew) | (with_reducible apply pw_below_drewN) | (with_reducible refine bstep' ?_ (by assumption)) | ((with_reducible refine Below.setCell ?_ ?_ _); rotate_left; (first | (dsimp only; omega) | (simp; done) | (simp; omega) | omega))))⟩

end Go.Proofs.Ytkkimlicabbooaa

/-
  with of package search: an append whose new element lies anywhere.
-/
namespace Go.Proofs.Ytkkimlicabbooaa
open Go.RowKit Go.Proofs.YtkkimlicabbooaaW.PrintWords Bs
attribute [local go_sem] Later.cell? Later.frozen?
set_option linter.unusedVariables false
set_option linter.unusedSimpArgs false

section
variable {P : Program} {ops : Array Oper} {o : Oper} {a : Act} {Q : Exit → Act → World → Prop} {Kc : Act → World → Prop} {α : Type}
/-- append(v, x) in a region, x's cells lying at block q. -/
theorem app_step (d : Kd α) {w0 W : World} (base : Nat) (hw : Region.wanted o (yielded ops a.tmps) = true) (s x : Operand) (t e : TypeId) (z : Value) (bytes : Nat)
    (ho : o.op = .call { callee := .builtin .append, args := #[s, x], argTypes := #[t, t] })
    (ht : P.underlying t = some (.slice e)) (hinfo : (P.info? e).map (fun i => (i.zero, i.size, i.bytes)) = some (some z, d.sz, bytes)) (hz : z.cells.size = d.sz) (hs0 : 0 < d.sz) (hb0 : 0 < bytes)
    (v : Value) (xs : List α) (p : α) (cs : List Value) (ok okp : Nat → Prop) (hs : a.eval s = v) (q : Nat) (hx : a.eval x = .slice (some ⟨q, 0, none⟩) 1 1) (hq : ∀ j u, cs[j]? = some u → W.cell? ⟨q, j, none⟩ = some u)
    (hp : d.M W base okp p cs) (hokp : ∀ k, okp k → ok k ∧ some k ≠ v.ownBlock) (hfresh : ∀ k, W.heap.size ≤ k → ok k)
    (HO : d.R e W base ok v xs) (HB : Below base w0 W) (hbase : base ≤ W.heap.size) (hl : (xs.length + 1) * bytes ≤ 140737488355328)
    (h : ∀ v1 w1, d.R e w1 base ok v1 (xs ++ [p]) → Below base w0 w1 → W.grownBy w1 v.ownBlock → Kc (a.put o.dst v1) w1) :
    if Region.wanted o (yielded ops a.tmps) = true then Oper.wp P o a W Kc Q else Kc (a.put o.dst undef) W := by
  obtain ⟨h0, inner, hown, hr⟩ := HO
  obtain ⟨i0, hi, hzz⟩ := Option.map_eq_some_iff.1 hinfo
  simp only [Prod.mk.injEq] at hzz
  obtain ⟨hz0, hz1, hz2⟩ := hzz
  have hlen : xs.length + 1 ≤ 140737488355328 := Nat.le_trans (Nat.le_mul_of_pos_right _ hb0) hl
  rw [if_pos hw]
  obtain ⟨v1, w1, hrun, hown1, hg, _, hat⟩ := run_append_own_at (P := P) (w := W) base t o.type e i0 z d.sz bytes ht hi hz0 hz1 hz2 hz hs0 v xs.length inner hown ⟨q, 0, none⟩ 1 1 cs (by rw [d.K_len (d.K_of_M hp)]; simp)
    (fun j u hu => by rw [Go.WideShapes.add_plain]; simpa using hq j u hu) (d.K_one (d.K_of_M hp)) (by simp only [maxLen]; omega) hl hbase
  unfold Oper.wp execOp
  simp only [ho, resolve, invoke, builtin, Sem.run_bind, Sem.run_pure, Result.andThen_ok, List.map_toArray, List.map_cons, List.map_nil, hs, hx, hrun]
  exact h v1 w1 (Kd.R_appended h0 hr hp hokp hfresh hown1 hg (hat.imp id (fun e => ⟨_, e, Nat.le_refl _⟩))) (HB.grown hg hbase (own_base hown)) hg
end

theorem withR_types : ∀ q, q ∈ 33 :: kFct.E → q ≠ 25 := by decide
def notF (f : Fct) (turned : Bool) : Fct := { f with no := f.no != turned }

set_option maxHeartbeats 3200000 in
set_option maxRecDepth 100000 in
theorem with_c (A1 A2 : Option Addr) (n nf c1 c2 : Nat) (fs : List Fct) (f : Fct) (turned : Bool) (w : World) (h2 : kFct.C w A2 nf fs) (hn : nf ≤ 1000) :
    Calls Try.prog 40 #[.agg #[.slice A1 n c1, .slice A2 nf c2], .agg #[.int .i64 f.id, .int .i64 f.kind, .bool f.no, .int .i64 f.a, .int .i64 f.b, .int .i64 f.c, .int .i64 f.span.lo, .int .i64 f.span.hi, .int .i64 f.quarter], .bool turned] w fun e w' => ∃ v, e = .returned (.agg #[.slice A1 n c1, v]) ∧ kFct.R 33 w' w.heap.size (fun _ => True) v (fs ++ [notF f turned]) ∧ Below w.heap.size w w' := by
  have H2 := Aside0.mk h2
  have HL := Aside0.mk h2.1
  clear h2
  go_enter Try.func40, Try.ntmps40
  go_wp2_with fail
  generalize hW : (((w.alloc _).alloc _).alloc _ : World) = W
  have e0 : W.cell? ⟨w.heap.size, 0, none⟩ = some (.slice A1 n c1) := by subst hW; go_simp
  have e1 : W.cell? ⟨w.heap.size, 1, none⟩ = some (.slice A2 nf c2) := by subst hW; go_simp
  have f0 : W.cell? ⟨w.heap.size + 1, 0, none⟩ = some (.int .i64 f.id) := by subst hW; go_simp
  have f1 : W.cell? ⟨w.heap.size + 1, 1, none⟩ = some (.int .i64 f.kind) := by subst hW; go_simp
  have f2 : W.cell? ⟨w.heap.size + 1, 2, none⟩ = some (.bool (!(f.no == turned))) := by subst hW; go_simp
  have f3 : W.cell? ⟨w.heap.size + 1, 3, none⟩ = some (.int .i64 f.a) := by subst hW; go_simp
  have f4 : W.cell? ⟨w.heap.size + 1, 4, none⟩ = some (.int .i64 f.b) := by subst hW; go_simp
  have f5 : W.cell? ⟨w.heap.size + 1, 5, none⟩ = some (.int .i64 f.c) := by subst hW; go_simp
  have f6 : W.cell? ⟨w.heap.size + 1, 6, none⟩ = some (.int .i64 f.span.lo) := by subst hW; go_simp
  have f7 : W.cell? ⟨w.heap.size + 1, 7, none⟩ = some (.int .i64 f.span.hi) := by subst hW; go_simp
  have f8 : W.cell? ⟨w.heap.size + 1, 8, none⟩ = some (.int .i64 f.quarter) := by subst hW; go_simp
  have r0 : W.cell? ⟨w.heap.size + 1 + 1, 0, none⟩ = some (.slice none 0 0) := by subst hW; go_simp
  have r1 : W.cell? ⟨w.heap.size + 1 + 1, 1, none⟩ = some (.slice none 0 0) := by subst hW; go_simp
  have hfp : ∀ o, W.frozen? ⟨w.heap.size, o, none⟩ = false := by intro o; subst hW; go_simp
  have hfr : ∀ o, W.frozen? ⟨w.heap.size + 1 + 1, o, none⟩ = false := by intro o; subst hW; go_simp
  have hT1 : Ty W w.heap.size 25 2 := by subst hW; exact (by repeat (first | (with_reducible assumption) | (exact Ty.new3 (by first | (simp; done) | (simp; omega) | omega)) | (with_reducible refine Ty.old ?_) | (with_reducible refine Ty.set ?_) | (with_reducible refine Ty.drew ?_) | (with_reducible refine Ty.below ?_ (by assumption))))
  have hT2 : Ty W (w.heap.size + 1 + 1) 25 2 := by subst hW; exact (by repeat (first | (with_reducible assumption) | (exact Ty.new3 (by first | (simp; done) | (simp; omega) | omega)) | (with_reducible refine Ty.old ?_) | (with_reducible refine Ty.set ?_) | (with_reducible refine Ty.drew ?_) | (with_reducible refine Ty.below ?_ (by assumption))))
  have HBW := Aside0.mk (show Below w.heap.size w W by subst hW; exact (by repeat (first | (with_reducible exact Below.refl _ _) | (with_reducible exact HB.out) | (with_reducible assumption) | (with_reducible apply below_alloc) | (with_reducible apply below_drew) | (with_reducible apply pw_below_drewN) | (with_reducible refine bstep' ?_ (by assumption)) | ((with_reducible refine Below.setCell ?_ ?_ _); rotate_left; (first | (dsimp only; omega) | (simp; done) | (simp; omega) | omega)))))
  have hz : w.heap.size + 1 + 1 < W.heap.size := by subst hW; simp
  have hz0 : w.heap.size < W.heap.size := by omega
  have hz1 : w.heap.size + 1 < W.heap.size := by omega
  clear hW
  generalize hnb : (!(f.no == turned)) = nb at *
  have HNB := Aside0.mk (show encFct (notF f turned) = [.int .i64 f.id, .int .i64 f.kind, .bool nb, .int .i64 f.a, .int .i64 f.b, .int .i64 f.c, .int .i64 f.span.lo, .int .i64 f.span.hi, .int .i64 f.quarter] by rw [← hnb]; rfl)
  clear hnb
  go_cut [] (fun W1 => ∃ v, W1.cell? ⟨w.heap.size, 0, none⟩ = some (.slice A1 n c1) ∧ W1.cell? ⟨w.heap.size, 1, none⟩ = some v ∧ W1.cell? ⟨w.heap.size + 1 + 1, 0, none⟩ = some (.slice none 0 0) ∧ W1.cell? ⟨w.heap.size + 1 + 1, 1, none⟩ = some (.slice none 0 0) ∧ Aside0 (Ty W1 (w.heap.size + 1 + 1) 25 2) ∧ Aside0 (kFct.R 33 W1 w.heap.size (fun _ => True) v (fs ++ [notF f turned])) ∧ Aside0 (Below w.heap.size w W1))
  case first =>
    go_region_law (first | (go_simp; go_at_call 67; refine (cloneFct_c _ nf _ fs _ (Kd.C_below H2.out (bstep' HBW.out (by repeat (first | (with_reducible exact Below.refl _ _) | (with_reducible exact HB.out) | (with_reducible assumption) | (with_reducible apply below_alloc) | (with_reducible apply below_drew) | (with_reducible apply pw_below_drewN) | (with_reducible refine bstep' ?_ (by assumption)) | ((with_reducible refine Below.setCell ?_ ?_ _); rotate_left; (first | (dsimp only; omega) | (simp; done) | (simp; omega) | omega)))))) (by omega)).mono ?_; rintro e w7 ⟨v7, rfl, hv7, hb7⟩; dsimp only; have hbw7 : Below W.heap.size W w7 := (bstep' (by repeat (first | (with_reducible exact Below.refl _ _) | (with_reducible exact HB.out) | (with_reducible assumption) | (with_reducible apply below_alloc) | (with_reducible apply below_drew) | (with_reducible apply pw_below_drewN) | (with_reducible refine bstep' ?_ (by assumption)) | ((with_reducible refine Below.setCell ?_ ?_ _); rotate_left; (first | (dsimp only; omega) | (simp; done) | (simp; omega) | omega)))) hb7); have g0 := (hbw7.cell (p := ⟨w.heap.size + 1, 0, none⟩) hz1).trans f0; have g1 := (hbw7.cell (p := ⟨w.heap.size + 1, 1, none⟩) hz1).trans f1; have g2 := (hbw7.cell (p := ⟨w.heap.size + 1, 2, none⟩) hz1).trans f2; have g3 := (hbw7.cell (p := ⟨w.heap.size + 1, 3, none⟩) hz1).trans f3; have g4 := (hbw7.cell (p := ⟨w.heap.size + 1, 4, none⟩) hz1).trans f4; have g5 := (hbw7.cell (p := ⟨w.heap.size + 1, 5, none⟩) hz1).trans f5; have g6 := (hbw7.cell (p := ⟨w.heap.size + 1, 6, none⟩) hz1).trans f6; have g7 := (hbw7.cell (p := ⟨w.heap.size + 1, 7, none⟩) hz1).trans f7; have g8 := (hbw7.cell (p := ⟨w.heap.size + 1, 8, none⟩) hz1).trans f8; have k0 := (hbw7.cell (p := ⟨w.heap.size, 0, none⟩) hz0).trans e0; have k1 := (hbw7.cell (p := ⟨w.heap.size, 1, none⟩) hz0).trans e1; have kf := (hbw7.frozen (p := ⟨w.heap.size, 1, none⟩) hz0).trans (hfp 1); have q0 := (hbw7.cell (p := ⟨w.heap.size + 1 + 1, 0, none⟩) hz).trans r0; have q1 := (hbw7.cell (p := ⟨w.heap.size + 1 + 1, 1, none⟩) hz).trans r1; have ho7 : ∀ k, v7.ownBlock = some k → W.heap.size ≤ k := (fun k hk => Nat.le_trans (show W.heap.size ≤ _ from by first | exact Nat.le_refl _ | (simp; done) | (simp; omega)) ((Kd.R_bound hv7).1 k hk).2.1); have z7 : w.heap.size + 1 < w7.heap.size := (cell_lt g0); have z8 : w.heap.size < w7.heap.size := (cell_lt k0); have z9 : w.heap.size + 1 + 1 < w7.heap.size := (cell_lt q0)) | (refine app_step kFct (w0 := w) w.heap.size rfl _ _ 23 33 (.agg #[.int .i64 0, .int .i64 0, .bool false, .int .i64 0, .int .i64 0, .int .i64 0, .int .i64 0, .int .i64 0, .int .i64 0]) 72 rfl Try.underlying23 infoFct rfl (by decide) (by omega) v7 fs (notF f turned) [.int .i64 f.id, .int .i64 f.kind, .bool nb, .int .i64 f.a, .int .i64 f.b, .int .i64 f.c, .int .i64 f.span.lo, .int .i64 f.span.hi, .int .i64 f.quarter] (fun _ => True) (fun _ => False) rfl _ rfl ?aQ HNB.out.symm (fun _ h => h.elim) (fun _ _ => trivial) (Kd.R_lower (Kd.R_below hv7 (by repeat (first | (with_reducible exact Below.refl _ _) | (with_reducible exact HB.out) | (with_reducible assumption) | (with_reducible apply below_alloc) | (with_reducible apply below_drew) | (with_reducible apply pw_below_drewN) | (with_reducible refine bstep' ?_ (by assumption)) | ((with_reducible refine Below.setCell ?_ ?_ _); rotate_left; (first | (dsimp only; omega) | (simp; done) | (simp; omega) | omega))))) (by simp; omega)) (bstep' HBW.out (by repeat (first | (with_reducible exact Below.refl _ _) | (with_reducible exact HB.out) | (with_reducible assumption) | (with_reducible apply below_alloc) | (with_reducible apply below_drew) | (with_reducible apply pw_below_drewN) | (with_reducible refine bstep' ?_ (by assumption)) | ((with_reducible refine Below.setCell ?_ ?_ _); rotate_left; (first | (dsimp only; omega) | (simp; done) | (simp; omega) | omega))))) ?aS ?aL ?_; (case aQ => intro j u hu; rcases j with _ | _ | _ | _ | _ | _ | _ | _ | _ | j <;> simp at hu <;> subst hu <;> first | (go_simp; done) | (refine (hb7.cell (p := ⟨_, _, none⟩) (by simp)).trans ?_; go_simp)); (case aS => first | (simp; omega) | omega); (case aL => have := HL.out; omega); intro v1 w9 hv1 hb9 hg9; have m0 : w9.cell? ⟨w.heap.size, 0, none⟩ = some (.slice A1 n c1) := cell_grown hg9 (by go_simp) (fun h => by have := ho7 _ h.symm; dsimp only at this; omega); have m1 : w9.cell? ⟨w.heap.size, 1, none⟩ = some (.slice A2 nf c2) := cell_grown hg9 (by go_simp) (fun h => by have := ho7 _ h.symm; dsimp only at this; omega); have m2 : w9.cell? ⟨w.heap.size + 1 + 1, 0, none⟩ = some (.slice none 0 0) := cell_grown hg9 (by go_simp) (fun h => by have := ho7 _ h.symm; dsimp only at this; omega); have m3 : w9.cell? ⟨w.heap.size + 1 + 1, 1, none⟩ = some (.slice none 0 0) := cell_grown hg9 (by go_simp) (fun h => by have := ho7 _ h.symm; dsimp only at this; omega); have mT : Ty w9 w.heap.size 25 2 := Ty.block (show Ty _ w.heap.size 25 2 from Ty.below hT1 (bstep' hbw7 (by repeat (first | (with_reducible exact Below.refl _ _) | (with_reducible exact HB.out) | (with_reducible assumption) | (with_reducible apply below_alloc) | (with_reducible apply below_drew) | (with_reducible apply pw_below_drewN) | (with_reducible refine bstep' ?_ (by assumption)) | ((with_reducible refine Below.setCell ?_ ?_ _); rotate_left; (first | (dsimp only; omega) | (simp; done) | (simp; omega) | omega)))))) (hg9.block _ (by first | exact z8 | (simp; omega)) (fun h => by have := ho7 _ h.symm; omega)); have mU : Ty w9 (w.heap.size + 1 + 1) 25 2 := Ty.block (show Ty _ (w.heap.size + 1 + 1) 25 2 from Ty.below hT2 (bstep' hbw7 (by repeat (first | (with_reducible exact Below.refl _ _) | (with_reducible exact HB.out) | (with_reducible assumption) | (with_reducible apply below_alloc) | (with_reducible apply below_drew) | (with_reducible apply pw_below_drewN) | (with_reducible refine bstep' ?_ (by assumption)) | ((with_reducible refine Below.setCell ?_ ?_ _); rotate_left; (first | (dsimp only; omega) | (simp; done) | (simp; omega) | omega)))))) (hg9.block _ (by first | exact z9 | (simp; omega)) (fun h => by have := ho7 _ h.symm; omega)); have mf := frozen_ty mT; obtain ⟨A12, c12, e12⟩ := Kd.R_slice hv1; have HV1 := Aside0.mk hv1; clear hv1; obtain ⟨LL, hLL⟩ : ∃ x, x = (fs ++ [notF f turned]).length := ⟨_, rfl⟩; rw [← hLL] at e12; clear hLL; subst e12))
    all_goals (go_wp2_with fail)
    all_goals go_meet
    all_goals (case rel => exact ⟨_, by go_simp, by go_simp, by go_simp, by go_simp, ⟨mU.set⟩, ⟨R_setTy HV1.out mT withR_types 1 _⟩, ⟨hb9.setCell (Nat.le_refl _) _⟩⟩)
  case rest =>
    obtain ⟨v, m0, m1, m2, m3, HTU, HV, HB⟩ := hcut
    obtain ⟨A12, c12, e12⟩ := Kd.R_slice HV.out
    obtain ⟨LL, hLL⟩ : ∃ x, x = (fs ++ [notF f turned]).length := ⟨_, rfl⟩
    rw [← hLL] at e12
    subst e12
    have mf := frozen_ty HTU.out
    have hbx := HB.out
    clear hLL
    go_wp2_with fail
    exact bodyPost_ret (v := .agg #[.slice A1 n c1, .slice A12 LL c12]) (by simp [results, Try.results40, go_sem, *]) rfl ⟨_, rfl, R_setTy (R_setTy HV.out HTU.out withR_types 0 _) HTU.out.set withR_types 1 _, (by repeat (first | (with_reducible exact Below.refl _ _) | (with_reducible exact HB.out) | (with_reducible assumption) | (with_reducible apply below_alloc) | (with_reducible apply below_drew) | (with_reducible apply pw_below_drewN) | (with_reducible refine bstep' ?_ (by assumption)) | ((with_reducible refine Below.setCell ?_ ?_ _); rotate_left; (first | (dsimp only; omega) | (simp; done) | (simp; omega) | omega))))⟩

end Go.Proofs.Ytkkimlicabbooaa

/-
  further, Decide of package search.
-/
namespace Go.Proofs.Ytkkimlicabbooaa
open Go.RowKit Go.Proofs.YtkkimlicabbooaaW.PrintWords Bs
attribute [local go_sem] Later.cell? Later.frozen?
set_option linter.unusedVariables false
set_option linter.unusedSimpArgs false

set_option maxHeartbeats 1600000 in
set_option maxRecDepth 100000 in
theorem further_c (A1 A2 : Option Addr) (n nf c1 c2 : Nat) (bs : List Bx) (fs : List Fct) (f : Fct) (w : World) (h1 : kBx.C w A1 n bs) (h2 : kFct.C w A2 nf fs) :
    Calls Try.prog 38 #[.agg #[.slice A1 n c1, .slice A2 nf c2], .agg #[.int .i64 f.id, .int .i64 f.kind, .bool f.no, .int .i64 f.a, .int .i64 f.b, .int .i64 f.c, .int .i64 f.span.lo, .int .i64 f.span.hi, .int .i64 f.quarter]] w fun e w' => e = .returned (.int .i64 (furtherP ⟨bs, fs⟩ f)) ∧ Below w.heap.size w w' := by
  have H1 := Aside0.mk h1
  have H2 := Aside0.mk h2
  have HL1 := Aside0.mk h1.1
  have HL2 := Aside0.mk h2.1
  clear h1 h2
  go_enter Try.func38, Try.ntmps38
  go_wp2_with fail
  generalize hW : ((w.alloc _).alloc _ : World) = W
  have e0 : W.cell? ⟨w.heap.size, 0, none⟩ = some (.slice A1 n c1) := by subst hW; go_simp
  have e1 : W.cell? ⟨w.heap.size, 1, none⟩ = some (.slice A2 nf c2) := by subst hW; go_simp
  have f0 : W.cell? ⟨w.heap.size + 1, 0, none⟩ = some (.int .i64 f.id) := by subst hW; go_simp
  have f1 : W.cell? ⟨w.heap.size + 1, 1, none⟩ = some (.int .i64 f.kind) := by subst hW; go_simp
  have f2 : W.cell? ⟨w.heap.size + 1, 2, none⟩ = some (.bool f.no) := by subst hW; go_simp
  have f3 : W.cell? ⟨w.heap.size + 1, 3, none⟩ = some (.int .i64 f.a) := by subst hW; go_simp
  have f4 : W.cell? ⟨w.heap.size + 1, 4, none⟩ = some (.int .i64 f.b) := by subst hW; go_simp
  have f5 : W.cell? ⟨w.heap.size + 1, 5, none⟩ = some (.int .i64 f.c) := by subst hW; go_simp
  have f6 : W.cell? ⟨w.heap.size + 1, 6, none⟩ = some (.int .i64 f.span.lo) := by subst hW; go_simp
  have f7 : W.cell? ⟨w.heap.size + 1, 7, none⟩ = some (.int .i64 f.span.hi) := by subst hW; go_simp
  have f8 : W.cell? ⟨w.heap.size + 1, 8, none⟩ = some (.int .i64 f.quarter) := by subst hW; go_simp
  have HBW := Aside0.mk (show Below w.heap.size w W by subst hW; exact (by repeat (first | (with_reducible exact Below.refl _ _) | (with_reducible exact HB.out) | (with_reducible assumption) | (with_reducible apply below_alloc) | (with_reducible apply below_drew) | (with_reducible apply pw_below_drewN) | (with_reducible refine bstep' ?_ (by assumption)) | ((with_reducible refine Below.setCell ?_ ?_ _); rotate_left; (first | (dsimp only; omega) | (simp; done) | (simp; omega) | omega)))))
  have hz0 : w.heap.size < W.heap.size := by subst hW; simp; omega
  have hz1 : w.heap.size + 1 < W.heap.size := by subst hW; simp
  clear hW
  refine (check_c _ _ n nf _ _ bs fs _ (Kd.C_below H1.out HBW.out) (Kd.C_below H2.out HBW.out)).mono ?_
  rintro e w1 ⟨rfl, hb⟩
  have e0 := (hb.cell (p := ⟨w.heap.size, 0, none⟩) hz0).trans e0
  have e1 := (hb.cell (p := ⟨w.heap.size, 1, none⟩) hz0).trans e1
  have f0 := (hb.cell (p := ⟨w.heap.size + 1, 0, none⟩) hz1).trans f0
  have f1 := (hb.cell (p := ⟨w.heap.size + 1, 1, none⟩) hz1).trans f1
  have f2 := (hb.cell (p := ⟨w.heap.size + 1, 2, none⟩) hz1).trans f2
  have f3 := (hb.cell (p := ⟨w.heap.size + 1, 3, none⟩) hz1).trans f3
  have f4 := (hb.cell (p := ⟨w.heap.size + 1, 4, none⟩) hz1).trans f4
  have f5 := (hb.cell (p := ⟨w.heap.size + 1, 5, none⟩) hz1).trans f5
  have f6 := (hb.cell (p := ⟨w.heap.size + 1, 6, none⟩) hz1).trans f6
  have f7 := (hb.cell (p := ⟨w.heap.size + 1, 7, none⟩) hz1).trans f7
  have f8 := (hb.cell (p := ⟨w.heap.size + 1, 8, none⟩) hz1).trans f8
  have hb1 := HBW.out.trans (hb.mono HBW.out.size)
  have z0 := cell_lt e0
  clear hb
  by_cases hc : checkP ⟨bs, fs⟩ = 0
  · have hcb : (checkP ⟨bs, fs⟩ != 0) = false := by simp [hc]
    have hcb2 : (checkP ⟨bs, fs⟩ == 0) = true := by simp [hc]
    have k12 := (check_valid hc).1
    rw [HL1.out] at k12
    have HU := Aside0.mk (show furtherP ⟨bs, fs⟩ f = if formedB f n then (if 60 ≤ nf then 2 else 0) else 1 by unfold furtherP; rw [if_pos hc]; dsimp only; rw [HL1.out, HL2.out])
    clear hc
    cases hf : formedB f n with
    | false =>
      have HF := Aside0.mk hf
      go_wp2_with (go_at_call 32; refine (formed_c f _ _ (by omega) (by omega)).mono ?_; rintro e w2 ⟨rfl, hb2⟩; rw [HF.out])
      go_ret
      exact ⟨by rw [HU.out, HF.out]; rfl, (by repeat (first | (with_reducible exact Below.refl _ _) | (with_reducible exact HB.out) | (with_reducible assumption) | (with_reducible apply below_alloc) | (with_reducible apply below_drew) | (with_reducible apply pw_below_drewN) | (with_reducible refine bstep' ?_ (by assumption)) | ((with_reducible refine Below.setCell ?_ ?_ _); rotate_left; (first | (dsimp only; omega) | (simp; done) | (simp; omega) | omega))))⟩
    | true =>
      have HF := Aside0.mk hf
      clear hf
      by_cases h60 : 60 ≤ nf
      · have h60' : (60 : Int) ≤ (nf : Int) := by omega
        go_wp2_with (go_at_call 32; refine (formed_c f _ _ (by omega) (by omega)).mono ?_; rintro e w2 ⟨rfl, hb2⟩; rw [HF.out]; have e1 := (hb2.cell (p := ⟨w.heap.size, 1, none⟩) z0).trans e1)
        go_ret
        exact ⟨by rw [HU.out, HF.out, if_pos h60]; rfl, (by repeat (first | (with_reducible exact Below.refl _ _) | (with_reducible exact HB.out) | (with_reducible assumption) | (with_reducible apply below_alloc) | (with_reducible apply below_drew) | (with_reducible apply pw_below_drewN) | (with_reducible refine bstep' ?_ (by assumption)) | ((with_reducible refine Below.setCell ?_ ?_ _); rotate_left; (first | (dsimp only; omega) | (simp; done) | (simp; omega) | omega))))⟩
      · have h60' : (nf : Int) < 60 := by omega
        go_wp2_with (go_at_call 32; refine (formed_c f _ _ (by omega) (by omega)).mono ?_; rintro e w2 ⟨rfl, hb2⟩; rw [HF.out]; have e1 := (hb2.cell (p := ⟨w.heap.size, 1, none⟩) z0).trans e1)
        go_ret
        exact ⟨by rw [HU.out, HF.out, if_neg h60]; rfl, (by repeat (first | (with_reducible exact Below.refl _ _) | (with_reducible exact HB.out) | (with_reducible assumption) | (with_reducible apply below_alloc) | (with_reducible apply below_drew) | (with_reducible apply pw_below_drewN) | (with_reducible refine bstep' ?_ (by assumption)) | ((with_reducible refine Below.setCell ?_ ?_ _); rotate_left; (first | (dsimp only; omega) | (simp; done) | (simp; omega) | omega))))⟩
  · have hcb : (checkP ⟨bs, fs⟩ != 0) = true := by simp [hc]
    have hcb2 : (checkP ⟨bs, fs⟩ == 0) = false := by simp [hc]
    have HU := Aside0.mk (show furtherP ⟨bs, fs⟩ f = checkP ⟨bs, fs⟩ by unfold furtherP; rw [if_neg hc])
    clear hc
    go_wp2_with fail
    go_ret
    exact ⟨by rw [HU.out]; rfl, (by repeat (first | (with_reducible exact Below.refl _ _) | (with_reducible exact HB.out) | (with_reducible assumption) | (with_reducible apply below_alloc) | (with_reducible apply below_drew) | (with_reducible apply pw_below_drewN) | (with_reducible refine bstep' ?_ (by assumption)) | ((with_reducible refine Below.setCell ?_ ?_ _); rotate_left; (first | (dsimp only; omega) | (simp; done) | (simp; omega) | omega))))⟩

theorem further_zero {bs : List Bx} {fs : List Fct} {f : Fct} (h : furtherP ⟨bs, fs⟩ f = 0) : checkP ⟨bs, fs⟩ = 0 ∧ formedB f bs.length = true ∧ fs.length < 60 := by
  unfold furtherP at h
  split at h
  · rename_i hc
    split at h
    · rename_i hf
      split at h
      · omega
      · rename_i hl
        exact ⟨hc, hf, by dsimp only at hl; omega⟩
    · omega
  · rename_i hc; exact absurd h hc
theorem formed_not (f : Fct) (t : Bool) (n : Int) : formedB (notF f t) n = formedB f n := rfl
theorem check_with {bs : List Bx} {fs : List Fct} {f : Fct} (h : furtherP ⟨bs, fs⟩ f = 0) (t : Bool) : checkP ⟨bs, fs ++ [notF f t]⟩ = 0 := by
  obtain ⟨h1, h2, h3⟩ := further_zero h
  unfold checkP at h1 ⊢
  dsimp only at h1 ⊢
  split at h1
  · omega
  · rename_i hb
    rw [if_neg (by rw [List.length_append]; simp; omega)]
    split at h1
    · rename_i ha
      rw [if_pos (by
        rw [List.all_append]
        simp only [Bool.and_eq_true] at ha ⊢
        exact ⟨ha.1, ha.2, by simp [formed_not, h2]⟩)]
    · omega
end Go.Proofs.Ytkkimlicabbooaa

/-
  Decide of package search.
-/
namespace Go.Proofs.Ytkkimlicabbooaa
open Go.RowKit Go.Proofs.YtkkimlicabbooaaW.PrintWords Bs
attribute [local go_sem] Later.cell? Later.frozen?
set_option linter.unusedVariables false
set_option linter.unusedSimpArgs false

/-- A problem in block p, a fact in block q. -/
structure PF (p q : Nat) (A1 A2 : Option Addr) (n nf c1 c2 : Nat) (f : Fct) (W : World) : Prop where
  e0 : W.cell? ⟨p, 0, none⟩ = some (.slice A1 n c1)
  e1 : W.cell? ⟨p, 1, none⟩ = some (.slice A2 nf c2)
  f0 : W.cell? ⟨q, 0, none⟩ = some (.int .i64 f.id)
  f1 : W.cell? ⟨q, 1, none⟩ = some (.int .i64 f.kind)
  f2 : W.cell? ⟨q, 2, none⟩ = some (.bool f.no)
  f3 : W.cell? ⟨q, 3, none⟩ = some (.int .i64 f.a)
  f4 : W.cell? ⟨q, 4, none⟩ = some (.int .i64 f.b)
  f5 : W.cell? ⟨q, 5, none⟩ = some (.int .i64 f.c)
  f6 : W.cell? ⟨q, 6, none⟩ = some (.int .i64 f.span.lo)
  f7 : W.cell? ⟨q, 7, none⟩ = some (.int .i64 f.span.hi)
  f8 : W.cell? ⟨q, 8, none⟩ = some (.int .i64 f.quarter)
theorem PF.below {p q : Nat} {A1 A2 : Option Addr} {n nf c1 c2 : Nat} {f : Fct} {W W2 : World} (h : PF p q A1 A2 n nf c1 c2 f W) (hb : Below W.heap.size W W2) : PF p q A1 A2 n nf c1 c2 f W2 :=
  have hp := cell_lt h.e0
  have hq := cell_lt h.f0
  ⟨(hb.cell (p := ⟨p, 0, none⟩) hp).trans h.e0, (hb.cell (p := ⟨p, 1, none⟩) hp).trans h.e1, (hb.cell (p := ⟨q, 0, none⟩) hq).trans h.f0, (hb.cell (p := ⟨q, 1, none⟩) hq).trans h.f1, (hb.cell (p := ⟨q, 2, none⟩) hq).trans h.f2, (hb.cell (p := ⟨q, 3, none⟩) hq).trans h.f3,
   (hb.cell (p := ⟨q, 4, none⟩) hq).trans h.f4, (hb.cell (p := ⟨q, 5, none⟩) hq).trans h.f5, (hb.cell (p := ⟨q, 6, none⟩) hq).trans h.f6, (hb.cell (p := ⟨q, 7, none⟩) hq).trans h.f7, (hb.cell (p := ⟨q, 8, none⟩) hq).trans h.f8⟩

set_option maxHeartbeats 3200000 in
set_option maxRecDepth 100000 in
theorem decide_c (A1 A2 : Option Addr) (n nf c1 c2 : Nat) (bs : List Bx) (fs : List Fct) (f : Fct) (w : World) (h1 : kBx.C w A1 n bs) (h2 : kFct.C w A2 nf fs) :
    Calls Try.prog 20 #[.agg #[.slice A1 n c1, .slice A2 nf c2], .agg #[.int .i64 f.id, .int .i64 f.kind, .bool f.no, .int .i64 f.a, .int .i64 f.b, .int .i64 f.c, .int .i64 f.span.lo, .int .i64 f.span.hi, .int .i64 f.quarter]] w fun e w' => e = .returned (.tuple #[.int .i64 (decideP ⟨bs, fs⟩ f).1, .int .i64 (decideP ⟨bs, fs⟩ f).2]) ∧ Below w.heap.size w w' := by
  have H1 := Aside0.mk h1
  have H2 := Aside0.mk h2
  have HL1 := Aside0.mk h1.1
  have HL2 := Aside0.mk h2.1
  clear h1 h2
  go_enter Try.func20, Try.ntmps20
  go_wp2_with fail
  generalize hW : ((w.alloc _).alloc _ : World) = W
  have HPF := Aside0.mk (show PF w.heap.size (w.heap.size + 1) A1 A2 n nf c1 c2 f W by subst hW; exact ⟨by go_simp, by go_simp, by go_simp, by go_simp, by go_simp, by go_simp, by go_simp, by go_simp, by go_simp, by go_simp, by go_simp⟩)
  have HBW := Aside0.mk (show Below w.heap.size w W by subst hW; exact (by repeat (first | (with_reducible exact Below.refl _ _) | (with_reducible exact HB.out) | (with_reducible assumption) | (with_reducible apply below_alloc) | (with_reducible apply below_drew) | (with_reducible apply pw_below_drewN) | (with_reducible refine bstep' ?_ (by assumption)) | ((with_reducible refine Below.setCell ?_ ?_ _); rotate_left; (first | (dsimp only; omega) | (simp; done) | (simp; omega) | omega)))))
  clear hW
  refine (further_c _ _ n nf _ _ bs fs f _ (Kd.C_below H1.out HBW.out) (Kd.C_below H2.out HBW.out)).mono ?_
  rintro e w1 ⟨rfl, hb⟩
  have HP1 := Aside0.mk (HPF.out.below hb)
  have HB1 := Aside0.mk (HBW.out.trans (hb.mono HBW.out.size))
  clear hb HPF HBW
  by_cases hu : furtherP ⟨bs, fs⟩ f = 0
  · have hub : (furtherP ⟨bs, fs⟩ f != 0) = false := by simp [hu]
    have hub2 : (furtherP ⟨bs, fs⟩ f == 0) = true := by simp [hu]
    have HU := Aside0.mk hu
    have hc := (further_zero hu).1
    have HC := Aside0.mk hc
    have HCF := Aside0.mk (check_with hu false)
    have HCT := Aside0.mk (check_with hu true)
    have hnf : nf < 60 := by have := (further_zero hu).2.2; have := HL2.out; omega
    have HD := Aside0.mk (show decideP ⟨bs, fs⟩ f = (if (findP ⟨bs, fs⟩).err = 0 ∧ (findP ⟨bs, fs ++ [notF f false]⟩).err = 0 ∧ (findP ⟨bs, fs ++ [notF f true]⟩).err = 0 then (if (findP ⟨bs, fs⟩).empty then ((0 : Int), (9 : Int)) else if (findP ⟨bs, fs ++ [notF f true]⟩).empty then (2, 0) else if (findP ⟨bs, fs ++ [notF f false]⟩).empty then (1, 0) else (3, 0)) else (0, 2)) by
      unfold decideP; rw [if_pos hu]; rfl)
    clear hu hc
    have e0 := HP1.out.e0
    have e1 := HP1.out.e1
    go_wp2_with fail
    refine (find_c _ _ n nf _ _ bs fs _ (Kd.C_below H1.out HB1.out) (Kd.C_below H2.out HB1.out) HC.out).mono ?_
    rintro e w2 ⟨v2, rfl, hv2, hb2⟩
    obtain ⟨B2, d2, rfl⟩ := Kd.R_slice hv2
    have HP2 := Aside0.mk (HP1.out.below hb2)
    have HB2 := Aside0.mk (bstep' HB1.out hb2)
    generalize (findP ⟨bs, fs⟩).parts.length = l2 at *
    clear hv2 hb2 e0 e1
    generalize hF1 : findP ⟨bs, fs⟩ = F1 at *
    obtain ⟨E1, P1, R1⟩ := F1
    dsimp only at HD ⊢
    have hb3 := below_alloc (Below.refl w2.heap.size w2) (.cells #[.bool E1, .slice B2 l2 d2] 72)
    have HP3 := Aside0.mk (HP2.out.below hb3)
    have HB3 := Aside0.mk (bstep' HB2.out hb3)
    have g1 : (w2.alloc (.cells #[.bool E1, .slice B2 l2 d2] 72)).cell? ⟨w2.heap.size, 0, none⟩ = some (.bool E1) := by go_simp
    have e0 := HP2.out.e0
    have e1 := HP2.out.e1
    have f0 := HP2.out.f0
    have f1 := HP2.out.f1
    have f2 := HP2.out.f2
    have f3 := HP2.out.f3
    have f4 := HP2.out.f4
    have f5 := HP2.out.f5
    have f6 := HP2.out.f6
    have f7 := HP2.out.f7
    have f8 := HP2.out.f8
    have z0 := cell_lt e0
    have z1 := cell_lt f0
    go_wp2_with fail
    obtain ⟨w3, hw3⟩ : ∃ u, u = w2.alloc (.cells #[.bool E1, .slice B2 l2 d2] 72) := ⟨_, rfl⟩
    rw [← hw3] at HP3 HB3 g1 ⊢
    obtain ⟨b1, hb1⟩ : ∃ b, b = w2.heap.size := ⟨_, rfl⟩
    rw [← hb1] at g1 ⊢
    clear e0 e1 f0 f1 f2 f3 f4 f5 f6 f7 f8 z0 z1 hw3 hb1 hb3
    refine (with_c _ _ n nf _ _ fs f false _ (Kd.C_below H2.out HB3.out) (by omega)).mono ?_
    rintro e w4 ⟨v4, rfl, hv4, hb4⟩
    have hr4 := Kd.R_reads hv4
    obtain ⟨B4, d4, rfl, _, hC4⟩ := hr4
    have hl4 : (fs ++ [notF f false]).length = nf + 1 := by rw [List.length_append, HL2.out]; rfl
    rw [hl4] at hC4 ⊢
    have HC4 := Aside0.mk hC4
    have HP4 := Aside0.mk (HP3.out.below hb4)
    have HB4 := Aside0.mk (bstep' HB3.out hb4)
    have g1 := (hb4.cell (p := ⟨b1, 0, none⟩) (cell_lt g1)).trans g1
    clear hv4 hb4 hC4 hl4
    go_wp2_with fail
    refine (find_c _ _ n (nf + 1) _ _ bs (fs ++ [notF f false]) _ (Kd.C_below H1.out HB4.out) HC4.out HCF.out).mono ?_
    rintro e w5 ⟨v5, rfl, hv5, hb5⟩
    obtain ⟨B5, d5, rfl⟩ := Kd.R_slice hv5
    have HP5 := Aside0.mk (HP4.out.below hb5)
    have HB5 := Aside0.mk (bstep' HB4.out hb5)
    have g1 := (hb5.cell (p := ⟨b1, 0, none⟩) (cell_lt g1)).trans g1
    generalize (findP ⟨bs, fs ++ [notF f false]⟩).parts.length = l5 at *
    clear hv5 hb5
    generalize hF2 : findP ⟨bs, fs ++ [notF f false]⟩ = F2 at *
    obtain ⟨E2, P2, R2⟩ := F2
    dsimp only at HD ⊢
    have hb6 := below_alloc (Below.refl w5.heap.size w5) (.cells #[.bool E2, .slice B5 l5 d5] 72)
    have HP6 := Aside0.mk (HP5.out.below hb6)
    have HB6 := Aside0.mk (bstep' HB5.out hb6)
    have g1 := (hb6.cell (p := ⟨b1, 0, none⟩) (cell_lt g1)).trans g1
    have g2 : (w5.alloc (.cells #[.bool E2, .slice B5 l5 d5] 72)).cell? ⟨w5.heap.size, 0, none⟩ = some (.bool E2) := by go_simp
    have e0 := HP5.out.e0
    have e1 := HP5.out.e1
    have f0 := HP5.out.f0
    have f1 := HP5.out.f1
    have f2 := HP5.out.f2
    have f3 := HP5.out.f3
    have f4 := HP5.out.f4
    have f5 := HP5.out.f5
    have f6 := HP5.out.f6
    have f7 := HP5.out.f7
    have f8 := HP5.out.f8
    have z0 := cell_lt e0
    have z1 := cell_lt f0
    go_wp2_with fail
    obtain ⟨w6, hw6⟩ : ∃ u, u = w5.alloc (.cells #[.bool E2, .slice B5 l5 d5] 72) := ⟨_, rfl⟩
    rw [← hw6] at HP6 HB6 g1 g2 ⊢
    obtain ⟨b2, hb2⟩ : ∃ b, b = w5.heap.size := ⟨_, rfl⟩
    rw [← hb2] at g2 ⊢
    clear e0 e1 f0 f1 f2 f3 f4 f5 f6 f7 f8 z0 z1 hw6 hb2 hb6
    refine (with_c _ _ n nf _ _ fs f true _ (Kd.C_below H2.out HB6.out) (by omega)).mono ?_
    rintro e w7 ⟨v7, rfl, hv7, hb7⟩
    have hr7 := Kd.R_reads hv7
    obtain ⟨B7, d7, rfl, _, hC7⟩ := hr7
    have hl7 : (fs ++ [notF f true]).length = nf + 1 := by rw [List.length_append, HL2.out]; rfl
    rw [hl7] at hC7 ⊢
    have HC7 := Aside0.mk hC7
    have HB7 := Aside0.mk (bstep' HB6.out hb7)
    have g1 := (hb7.cell (p := ⟨b1, 0, none⟩) (cell_lt g1)).trans g1
    have g2 := (hb7.cell (p := ⟨b2, 0, none⟩) (cell_lt g2)).trans g2
    clear hv7 hb7 hC7 hl7
    go_wp2_with fail
    refine (find_c _ _ n (nf + 1) _ _ bs (fs ++ [notF f true]) _ (Kd.C_below H1.out HB7.out) HC7.out HCT.out).mono ?_
    rintro e w8 ⟨v8, rfl, hv8, hb8⟩
    obtain ⟨B8, d8, rfl⟩ := Kd.R_slice hv8
    have hb8' := bstep' HB7.out hb8
    have g1 := (hb8.cell (p := ⟨b1, 0, none⟩) (cell_lt g1)).trans g1
    have g2 := (hb8.cell (p := ⟨b2, 0, none⟩) (cell_lt g2)).trans g2
    have l1 := cell_lt g1
    have l2' := cell_lt g2
    generalize (findP ⟨bs, fs ++ [notF f true]⟩).parts.length = l8 at *
    clear hv8 hb8
    generalize hF3 : findP ⟨bs, fs ++ [notF f true]⟩ = F3 at *
    obtain ⟨E3, P3, R3⟩ := F3
    dsimp only at HD ⊢
    have hdone : ∀ {a b : Int}, a = b → Ending.returned (.int .i64 a) = .returned (.int .i64 b) := fun h => by rw [h]
    by_cases hR1 : R1 = 0
    · have q1 : (R1 != 0) = false := by simp [hR1]
      by_cases hR2 : R2 = 0
      · have q2 : (R2 != 0) = false := by simp [hR2]
        by_cases hR3 : R3 = 0
        · have q3 : (R3 != 0) = false := by simp [hR3]
          rw [if_pos ⟨hR1, hR2, hR3⟩] at HD
          clear hR1 hR2 hR3
          cases E1 <;> cases E3 <;> cases E2
          all_goals
            go_wp2_with fail
            go_ret2
            exact ⟨by rw [HD.out]; rfl, (by repeat (first | (with_reducible exact Below.refl _ _) | (with_reducible exact HB.out) | (with_reducible assumption) | (with_reducible apply below_alloc) | (with_reducible apply below_drew) | (with_reducible apply pw_below_drewN) | (with_reducible refine bstep' ?_ (by assumption)) | ((with_reducible refine Below.setCell ?_ ?_ _); rotate_left; (first | (dsimp only; omega) | (simp; done) | (simp; omega) | omega))))⟩
        · have q3 : (R3 != 0) = true := by simp [hR3]
          rw [if_neg (fun h => hR3 h.2.2)] at HD
          clear hR1 hR2 hR3
          go_wp2_with fail
          go_ret2
          exact ⟨by rw [HD.out]; rfl, (by repeat (first | (with_reducible exact Below.refl _ _) | (with_reducible exact HB.out) | (with_reducible assumption) | (with_reducible apply below_alloc) | (with_reducible apply below_drew) | (with_reducible apply pw_below_drewN) | (with_reducible refine bstep' ?_ (by assumption)) | ((with_reducible refine Below.setCell ?_ ?_ _); rotate_left; (first | (dsimp only; omega) | (simp; done) | (simp; omega) | omega))))⟩
      · have q2 : (R2 != 0) = true := by simp [hR2]
        rw [if_neg (fun h => hR2 h.2.1)] at HD
        clear hR1 hR2
        go_wp2_with fail
        go_ret2
        exact ⟨by rw [HD.out]; rfl, (by repeat (first | (with_reducible exact Below.refl _ _) | (with_reducible exact HB.out) | (with_reducible assumption) | (with_reducible apply below_alloc) | (with_reducible apply below_drew) | (with_reducible apply pw_below_drewN) | (with_reducible refine bstep' ?_ (by assumption)) | ((with_reducible refine Below.setCell ?_ ?_ _); rotate_left; (first | (dsimp only; omega) | (simp; done) | (simp; omega) | omega))))⟩
    · have q1 : (R1 != 0) = true := by simp [hR1]
      rw [if_neg (fun h => hR1 h.1)] at HD
      clear hR1
      go_wp2_with fail
      go_ret2
      exact ⟨by rw [HD.out]; rfl, (by repeat (first | (with_reducible exact Below.refl _ _) | (with_reducible exact HB.out) | (with_reducible assumption) | (with_reducible apply below_alloc) | (with_reducible apply below_drew) | (with_reducible apply pw_below_drewN) | (with_reducible refine bstep' ?_ (by assumption)) | ((with_reducible refine Below.setCell ?_ ?_ _); rotate_left; (first | (dsimp only; omega) | (simp; done) | (simp; omega) | omega))))⟩
  · have hub : (furtherP ⟨bs, fs⟩ f != 0) = true := by simp [hu]
    have hub2 : (furtherP ⟨bs, fs⟩ f == 0) = false := by simp [hu]
    have HD := Aside0.mk (show decideP ⟨bs, fs⟩ f = (0, furtherP ⟨bs, fs⟩ f) by unfold decideP; rw [if_neg hu])
    have hbx := HB1.out
    clear hu
    go_wp2_with fail
    go_ret2
    exact ⟨by rw [HD.out]; rfl, (by repeat (first | (with_reducible exact Below.refl _ _) | (with_reducible exact HB.out) | (with_reducible assumption) | (with_reducible apply below_alloc) | (with_reducible apply below_drew) | (with_reducible apply pw_below_drewN) | (with_reducible refine bstep' ?_ (by assumption)) | ((with_reducible refine Below.setCell ?_ ?_ _); rotate_left; (first | (dsimp only; omega) | (simp; done) | (simp; omega) | omega))))⟩

end Go.Proofs.Ytkkimlicabbooaa

/-
  slices.Clone, IndexFunc and DeleteFunc at []int, the last two for the closure of Core that compares with a number.
-/
namespace Go.Proofs.Ytkkimlicabbooaa
open Go.RowKit Go.Proofs.YtkkimlicabbooaaW.PrintWords Bs
attribute [local go_sem] Later.cell? Later.frozen?
set_option linter.unusedVariables false
set_option linter.unusedSimpArgs false


set_option maxHeartbeats 400000 in
/-- Core's first closure: is a number the one in block b? -/
theorem isId_c (n id : Int) (b : Nat) (w : World) (h : w.cell? ⟨b, 0, none⟩ = some (.int .i64 id)) :
    Calls Try.prog 45 #[.int .i64 n, .pointer (some ⟨b, 0, none⟩)] w fun e w' => e = .returned (.bool (n == id)) ∧ w = w' := by
  go_enter Try.func45, Try.ntmps45
  go_wp2_with fail
  go_ret
  exact ⟨rfl, rfl⟩

set_option maxHeartbeats 800000 in
theorem indexFunc_c (A : Option Addr) (n c b : Nat) (l : List Int) (x : Int) (w : World) (h : kInt.C w A n l) (hb : w.cell? ⟨b, 0, none⟩ = some (.int .i64 x)) (hn : n < 1000000) :
    Calls Try.prog 70 #[.slice A n c, .func (.func 45) #[] #[.pointer (some ⟨b, 0, none⟩)]] w fun e w' => e = .returned (.int .i64 (idxP l x)) ∧ Below w.heap.size w w' := by
  have H := Aside0.mk h
  have hl := h.1
  have HBC := Aside0.mk hb
  have hbl := cell_lt hb
  clear h hb
  go_enter Try.func70, Try.ntmps70
  go_wp2_with fail
  go_loopg [8] n (fun m cnt wr => ∃ k : Nat, k + m = n ∧ cnt = .int .i64 k ∧ idxP l x = idxFrom x (l.drop k) k ∧ Aside0 (Below w.heap.size w wr))
  case atStart => exact ⟨0, by omega, rfl, rfl, ⟨Below.refl _ _⟩⟩
  case round =>
    obtain ⟨k, hk, rfl, hI, HB⟩ := hrel
    have HI := Aside0.mk hI
    clear hI
    by_cases hlt : k < n
    · have hbc := (HB.out.cell (p := ⟨b, 0, none⟩) hbl).trans HBC.out
      obtain ⟨b', off, rfl, hb', e0⟩ := at_Int (Kd.C_below H.out HB.out) (k : Int) (by omega) (by omega)
      simp only [Int.toNat_natCast] at e0
      have HT := Aside0.mk (idx_step (x := x) (l := l) (k := k) (by omega))
      rw [← rInt_nat] at HT
      by_cases hE : x = rInt l (k : Int)
      · have HE1 := Aside0.mk (show (rInt l (k : Int) == x) = true from beq_iff_eq.2 hE.symm)
        have HR := Aside0.mk (show idxP l x = (k : Int) by rw [HI.out, HT.out, if_pos hE])
        clear hE
        generalize rInt l (k : Int) = V at *
        go_wp2_with (go_at_call 45; refine (isId_c V x b _ hbc).mono ?_; rintro e w1 ⟨rfl, rfl⟩; rw [HE1.out])
        go_ret
        exact ⟨by rw [HR.out]; rfl, HB.out⟩
      · have HE1 := Aside0.mk (show (rInt l (k : Int) == x) = false from beq_eq_false_iff_ne.2 (fun e => hE e.symm))
        have HR := Aside0.mk (show idxP l x = idxFrom x (l.drop (k + 1)) ((k + 1 : Nat) : Int) by rw [HI.out, HT.out, if_neg hE])
        clear hE
        generalize rInt l (k : Int) = V at *
        go_wp2_with (go_at_call 45; refine (isId_c V x b _ hbc).mono ?_; rintro e w1 ⟨rfl, rfl⟩; rw [HE1.out])
        go_roundg (gk - 1)
        case measure => omega
        case rel => exact ⟨k + 1, by omega, by go_num, HR.out, HB⟩
    · obtain rfl : k = n := by omega
      have HR := Aside0.mk (show idxP l x = -1 by rw [HI.out, List.drop_of_length_le (by omega)]; rfl)
      go_wp2_with fail
      go_ret
      exact ⟨by rw [HR.out]; rfl, HB.out⟩

end Go.Proofs.Ytkkimlicabbooaa

/-
  slices.DeleteFunc at []int, for the closure of Core that compares with a number.
-/
namespace Go.Proofs.Ytkkimlicabbooaa
open Go.RowKit Go.Proofs.YtkkimlicabbooaaW.PrintWords Bs
attribute [local go_sem] Later.cell? Later.frozen?
set_option linter.unusedVariables false
set_option linter.unusedSimpArgs false

theorem zeroInt (w : World) : (zeroValue 3).run Try.prog w = .ok (.int .i64 0) w := by kernel_rfl
/-- What lies from i on is cleared. -/
theorem R_clear {base g n cap : Nat} {ok : Nat → Prop} : ∀ (m i : Nat) (W : World) (xs : List Int), kInt.R 3 W base ok (.slice (some ⟨g, 0, none⟩) n cap) xs →
    ∃ ys, kInt.R 3 (W.setCells g i (List.replicate m (.int .i64 0))) base ok (.slice (some ⟨g, 0, none⟩) n cap) ys ∧ ys.take i = xs.take i ∧ ys.length = xs.length ∧ W.grownBy (W.setCells g i (List.replicate m (.int .i64 0))) (some g)
  | 0, i, W, xs, h => ⟨xs, h, rfl, rfl, gr_refl⟩
  | m + 1, i, W, xs, h => by
    obtain ⟨ys, h1, h2, h3, h4⟩ := R_clear m (i + 1) (W.setCell ⟨g, i, none⟩ (.int .i64 0)) (xs.set i 0) (int_set h i 0)
    refine ⟨ys, h1, ?_, by rw [h3, List.length_set], grownBy_trans (grown_set _ _ _ _) h4⟩
    have h5 := congrArg (List.take i) h2
    rw [List.take_take, List.take_take, Nat.min_eq_left (by omega), List.take_set_of_le (by omega)] at h5
    exact h5

set_option maxHeartbeats 3200000 in
set_option maxRecDepth 100000 in
theorem deleteFunc_c (A : Option Addr) (n cap b base : Nat) (l : List Int) (x : Int) (w : World) (h : kInt.R 3 w base (fun _ => True) (.slice A n cap) l) (hb : w.cell? ⟨b, 0, none⟩ = some (.int .i64 x)) (hbg : ∀ g, A = some ⟨g, 0, none⟩ → b ≠ g) (hn : n < 1000000) :
    Calls Try.prog 44 #[.slice A n cap, .func (.func 45) #[] #[.pointer (some ⟨b, 0, none⟩)]] w fun e w' => ∃ v, e = .returned v ∧ kInt.R 3 w' base (fun _ => True) v (othersP l x) ∧ w.grownBy w' (Value.slice A n cap).ownBlock := by
  have hC := row_C h
  have hl := hC.1
  have H := Aside0.mk h
  have HC := Aside0.mk hC.2
  have HBC := Aside0.mk hb
  have HBL := Aside0.mk (cell_lt hb)
  clear h hb hC
  go_enter Try.func44, Try.ntmps44
  go_wp2_with fail
  refine (indexFunc_c A n cap b l x _ HC.out HBC.out hn).mono ?_
  rintro e w1 ⟨rfl, hb1⟩
  have HG1 := Aside0.mk (show w.grownBy w1 (Value.slice A n cap).ownBlock from grown_of_below hb1 _)
  have HR1 := Aside0.mk (Kd.R_below H.out hb1)
  have hbc := (hb1.cell (p := ⟨b, 0, none⟩) HBL.out).trans HBC.out
  clear hb1
  rcases idxP_cases l x with ⟨h1, h2⟩ | ⟨h1, h2, _⟩
  · have HO := Aside0.mk (others_none h2)
    have HI := Aside0.mk h1
    have hi1 : (idxP l x == -1) = true := beq_iff_eq.2 h1
    clear h1 h2
    rw [HI.out]
    go_wp2_with fail
    go_ret
    exact ⟨_, rfl, by rw [HO.out]; exact HR1.out, HG1.out⟩
  · obtain ⟨i0, hi0⟩ := Int.eq_ofNat_of_zero_le h1
    obtain ⟨j1, j2, j3⟩ := idxP_at hi0
    have HI := Aside0.mk hi0
    have HJ1 := Aside0.mk j1
    have HJ3 := Aside0.mk j3
    clear h1 h2 hi0 j1 j3
    obtain ⟨g, cap', e1, gb, gl, _⟩ := Kd.R_form HR1.out (by omega)
    obtain ⟨rfl, hnl, rfl⟩ : A = some ⟨g, 0, none⟩ ∧ n = l.length ∧ cap = cap' := by injection e1 with a b c; exact ⟨a, b, c⟩
    have HL := Aside0.mk hnl
    have hng := hbg g rfl
    have hi0n : i0 < n := by omega
    clear e1 gl hl hnl j2
    rw [HI.out]
    go_wp2_with fail
    have HS0 := Aside0.mk (show l = l.take i0 ++ [l.getD i0 0] ++ l.drop (i0 + 1) by rw [← take_get (by have := HL.out; omega), List.take_append_drop])
    have HT0 := Aside0.mk (show othersP (l.take (i0 + 1)) x = l.take i0 by rw [take_get (z := 0) (by have := HL.out; omega), others_snoc, HJ3.out, if_pos rfl, List.append_nil]; exact others_none HJ1.out)
    go_loopg [5, 6] (n - (i0 + 1)) (fun m iv jv wr => ∃ (i j : Nat) (M : List Int), j + m = n ∧ iv = .int .i64 i ∧ jv = .int .i64 j ∧ i < j ∧ Aside0 (i = (othersP (l.take j) x).length ∧ i + M.length = j) ∧ Aside0 (kInt.R 3 wr base (fun _ => True) (.slice (some ⟨g, 0, none⟩) n cap) (othersP (l.take j) x ++ M ++ l.drop j)) ∧ Aside0 (w.grownBy wr (some g)) ∧ wr.cell? ⟨b, 0, none⟩ = some (.int .i64 x))
    case atStart => exact ⟨i0, i0 + 1, [l.getD i0 0], by omega, rfl, by go_num, by omega, ⟨by rw [HT0.out, List.length_take]; have := HL.out; omega, by simp⟩, ⟨by rw [HT0.out, ← HS0.out]; exact HR1.out⟩, HG1, hbc⟩
    case round =>
      obtain ⟨i, j, M, hj, rfl, rfl, hij, HM, HO, HG, hbc⟩ := hrel
      by_cases hlt : j < n
      · have e0 := int_at HO.out (j : Int) (by omega) (by omega)
        have HV := Aside0.mk (show rInt (othersP (l.take j) x ++ M ++ l.drop j) (j : Int) = l.getD j 0 by rw [rInt_nat]; exact get_mid (by have := HM.out; omega) (by have := HL.out; omega))
        rw [HV.out] at e0
        simp only [Int.toNat_natCast] at e0
        have HTK := Aside0.mk (take_get (l := l) (k := j) (z := 0) (by have := HL.out; omega))
        have HDR := Aside0.mk (drop_get (l := l) (k := j) (z := 0) (by have := HL.out; omega))
        have hfz := (R_own1 HO.out (by omega)).1
        have ei := int_at HO.out (i : Int) (by omega) (by omega)
        simp only [Int.toNat_natCast] at ei
        generalize l.getD j 0 = V at *
        generalize hri : rInt (othersP (l.take j) x ++ M ++ l.drop j) (i : Int) = U at *
        by_cases hE : V = x
        · have HE := Aside0.mk hE
          have HE1 := Aside0.mk (show (V == x) = true from beq_iff_eq.2 hE)
          clear hE ei hri
          go_wp2_with (go_at_call 45; refine (isId_c V x b _ hbc).mono ?_; rintro e w2 ⟨rfl, rfl⟩; rw [HE1.out])
          go_roundg (gk - 1)
          case measure => omega
          case rel => exact ⟨i, j + 1, M ++ [V], by omega, rfl, by go_num, by omega, ⟨by rw [HTK.out, others_snoc, if_pos HE.out, List.append_nil]; exact HM.out.1, by have := HM.out.2; simp; omega⟩, ⟨by
            rw [HTK.out, others_snoc, if_pos HE.out, List.append_nil]
            have h5 := HO.out
            rw [HDR.out] at h5
            simpa using h5⟩, HG, hbc⟩
        · have HE := Aside0.mk hE
          have HE1 := Aside0.mk (show (V == x) = false from beq_eq_false_iff_ne.2 hE)
          have HMN := Aside0.mk (show M ≠ [] by rintro rfl; have := HM.out.2; simp at this; omega)
          have HST := Aside0.mk (int_set HO.out i V)
          clear hE hri
          go_wp2_with (go_at_call 45; refine (isId_c V x b _ hbc).mono ?_; rintro e w2 ⟨rfl, rfl⟩; rw [HE1.out])
          go_roundg (gk - 1)
          case measure => omega
          case rel => exact ⟨i + 1, j + 1, M.tail ++ [V], by omega, by go_num, by go_num, by omega, ⟨by rw [HTK.out, others_snoc, if_neg HE.out, List.length_append, ← HM.out.1]; rfl, by have := HM.out.2; have := List.length_pos_iff.2 HMN.out; simp; omega⟩, ⟨by
            rw [HTK.out, others_snoc, if_neg HE.out]
            have h5 := HST.out
            have h6 : (othersP (l.take j) x ++ M ++ l.drop j).set i V = (othersP (l.take j) x ++ [V]) ++ M.tail ++ l.drop j := by rw [HM.out.1]; exact set_mid HMN.out
            rw [h6, HDR.out] at h5
            simpa using h5⟩, ⟨grownBy_trans HG.out (grown_set _ _ _ _)⟩, (World.cell?_of_block (Below.heap_setCell _ _ _ _ hng)).trans hbc⟩
      · obtain rfl : gk = 0 := by omega
        obtain rfl : n = j := by omega
        have hcap := (Kd.R_reads' HO.out).2.1
        have hne : ¬ cap = i := by omega
        have hfz := (R_own1 HO.out (by omega)).1
        have hce : ∀ k, k < n → (wr.cell? ⟨g, k, none⟩).isSome = true := fun k hk => by have := int_at HO.out (k : Int) (by omega) (by omega); simp only [Int.toNat_natCast] at this; rw [this]; rfl
        have hcl : ∀ ty, (Builtin.clear_ #[52] ty #[.slice (some ⟨g, i, none⟩) (n - i) (cap - i)]).run Try.prog wr = .ok (.tuple #[]) (wr.setCells g i (List.replicate (n - i) (.int .i64 0))) :=
          fun ty => Lib.run_clear_slice wr _ _ ty _ Try.underlying52 zeroInt rfl rfl g i _ _ (by omega) (fun k hk => hce _ (by omega)) (fun k hk => hfz _)
        have HCL := Aside0.mk (R_clear (n - i) i wr _ HO.out)
        clear hce
        go_wp2_with fail
        go_ret
        obtain ⟨ys, k1, k2, k3, k4⟩ := HCL.out
        have hln : l.take n = l := List.take_of_length_le (by have := HL.out; omega)
        have hi1 := HM.out.1
        rw [hln] at k2 hi1
        rw [hi1, List.append_assoc, List.take_left' rfl] at k2
        refine ⟨_, rfl, ?_, grownBy_trans HG.out k4⟩
        have k5 := Kd.R_take (m := i) k1 (by rw [k3, hln]; simp; omega)
        rw [hi1, k2, ← hi1] at k5
        exact k5

end Go.Proofs.Ytkkimlicabbooaa

/-
  The library's sort at []int of twelve numbers or fewer: cmp.Less, insertionSortOrdered.
-/
namespace Go.Proofs.Ytkkimlicabbooaa
open Go.RowKit Go.Proofs.YtkkimlicabbooaaW.PrintWords Bs
attribute [local go_sem] Later.cell? Later.frozen?
set_option linter.unusedVariables false
set_option linter.unusedSimpArgs false

set_option maxHeartbeats 400000 in
theorem isNaN_c (x : Int) (w : World) :
    Calls Try.prog 102 #[.int .i64 x] w fun e w' => e = .returned (.bool false) ∧ w = w' := by
  go_enter Try.func102, Try.ntmps102
  go_wp2_with fail
  go_ret
  exact ⟨by simp, rfl⟩
set_option maxHeartbeats 400000 in
theorem less_int_c (x y : Int) (w : World) :
    Calls Try.prog 85 #[.int .i64 x, .int .i64 y] w fun e w' => e = .returned (.bool (decide (x < y))) ∧ w = w' := by
  go_enter Try.func85, Try.ntmps85
  go_wp2_with (go_at_call 102; refine (isNaN_c _ _).mono ?_; rintro e w' ⟨rfl, rfl⟩)
  go_ret
  exact ⟨rfl, rfl⟩

set_option maxHeartbeats 3200000 in
set_option maxRecDepth 100000 in
theorem insertion_c (A : Option Addr) (n cap base : Nat) (l : List Int) (w : World) (h : kInt.R 3 w base (fun _ => True) (.slice A n cap) l) (hn : n < 1000000) :
    Calls Try.prog 79 #[.slice A n cap, .int .i64 0, .int .i64 n] w fun e w' => e = .returned (.tuple #[]) ∧ kInt.R 3 w' base (fun _ => True) (.slice A n cap) (sortJ l) ∧ w.grownBy w' (Value.slice A n cap).ownBlock := by
  have hl := (row_C h).1
  have H := Aside0.mk h
  have HL := Aside0.mk hl
  clear h hl
  go_enter Try.func79, Try.ntmps79
  go_wp2_with fail
  go_loopg [6, 7] (n - 1) (fun m iv jv wr => ∃ i : Nat, iv = .int .i64 i ∧ 1 ≤ i ∧ i ≤ n + 1 ∧ m = n - i ∧ Aside0 (kInt.R 3 wr base (fun _ => True) (.slice A n cap) (sortJ (l.take i) ++ l.drop i)) ∧ Aside0 (w.grownBy wr (Value.slice A n cap).ownBlock))
  case atStart => exact ⟨1, rfl, by omega, by omega, rfl, ⟨by
    have : sortJ (l.take 1) ++ l.drop 1 = l := by cases l <;> simp [sortJ, insJ]
    rw [this]; exact H.out⟩, ⟨gr_refl⟩⟩
  case round =>
    obtain ⟨i, rfl, hi1, hi2, hm, HO, HG⟩ := hrel
    have HMM := Aside0.mk hm
    clear hm
    by_cases hlt : i < n
    · obtain ⟨g, cap', e1, gb, gl, _⟩ := Kd.R_form HO.out (by have := HL.out; have := sortJ_length (l.take i); simp at this ⊢; omega)
      obtain ⟨rfl, rfl⟩ : A = some ⟨g, 0, none⟩ ∧ cap = cap' := by injection e1 with a b c; exact ⟨a, c⟩
      have HDR := Aside0.mk (drop_get (l := l) (k := i) (z := 0) (by have := HL.out; omega))
      have HTK := Aside0.mk (take_get (l := l) (k := i) (z := 0) (by have := HL.out; omega))
      have HSL := Aside0.mk (show (sortJ (l.take i)).length = i by rw [sortJ_length, List.length_take]; have := HL.out; omega)
      have HSR := Aside0.mk (sortJ_srt (l.take i))
      have HSN := Aside0.mk (show sortJ (l.take (i + 1)) = insJ (l.getD i 0) (sortJ (l.take i)) by rw [HTK.out, sortJ_snoc])
      clear e1 gb gl HTK
      generalize l.getD i 0 = x at *
      generalize sortJ (l.take i) = P at *
      obtain ⟨g1, rfl⟩ : ∃ u, u = gk := ⟨_, rfl⟩
      obtain ⟨w1, rfl⟩ : ∃ u, u = wr := ⟨_, rfl⟩
      go_wp2_with fail
      go_loopg [7] i (fun m jv wr => ∃ (j : Nat) (A B : List Int), jv = .int .i64 j ∧ m = j ∧ j ≤ i ∧ Aside0 (A.length = j) ∧ Aside0 (P = A ++ B ∧ ∀ b ∈ B, x < b) ∧ Aside0 (kInt.R 3 wr base (fun _ => True) (.slice (some ⟨g, 0, none⟩) n cap) (A ++ x :: B ++ l.drop (i + 1))) ∧ Aside0 (w.grownBy wr (some g)))
      case atStart => exact ⟨i, P, [], rfl, rfl, Nat.le_refl _, HSL, ⟨by simp, by simp⟩, ⟨by have h5 := HO.out; rw [HDR.out] at h5; simpa using h5⟩, HG⟩
      case round =>
        obtain ⟨j, A, B, rfl, hm, hji, HAL, HPB, HO2, HG2⟩ := hrel
        rcases List.eq_nil_or_concat A with hA | ⟨A', y, hA⟩
        · obtain rfl : j = 0 := by have := HAL.out; rw [hA] at this; simpa using this.symm
          have HIN := Aside0.mk (show insJ x P = A ++ x :: B by rw [HPB.out.1, hA]; exact ins_split (by simp) HPB.out.2)
          clear hA
          go_wp2_with fail
          (refine wp_region_quiet (C := fun w' => ∃ t : Later _, w' = t.w) (by kernel_rfl) (by kernel_rfl) (IsLater.drew _) ?_; (repeat (first | go_big_quiet_step (fail) | quiet_step (fail))); refine wpQuiet_nil ?_; rintro _ ⟨tq, rfl⟩)
          have hq := tq.h
          go_wp2_with fail
          go_roundg (g1 - 1)
          case measure => have := HMM.out; omega
          case rel => exact ⟨i + 1, by go_num, by omega, by omega, by have := HMM.out; omega, ⟨by rw [HSN.out, HIN.out]; exact Kd.R_below HO2.out hq⟩, ⟨gr_below HG2.out hq⟩⟩
        · obtain ⟨k, hk⟩ : ∃ k, k = A'.length := ⟨_, rfl⟩
          obtain rfl : j = k + 1 := by have := HAL.out; rw [hA] at this; simp at this; omega
          have HK := Aside0.mk hk
          have HAA := Aside0.mk hA
          have hkn : k < n := by omega
          have hk1n : k + 1 < n := by omega
          have e0 := int_at HO2.out (k : Int) (by omega) (by omega)
          have e1 := int_at HO2.out ((k + 1 : Nat) : Int) (by omega) (by omega)
          rw [rInt_nat, hA, hk, List.concat_eq_append, swap_at.2, ← hk] at e0
          rw [rInt_nat, hA, hk, List.concat_eq_append, swap_at.1, ← hk] at e1
          have hfz := (R_own1 HO2.out (by omega)).1
          simp only [Int.toNat_natCast] at e0 e1
          have hgl := cell_lt e0
          have hdj : decide ((0 : Int) < ((k + 1 : Nat) : Int)) = true := by simp
          clear hA hk
          by_cases hxy : x < y
          · have hdx : decide (x < y) = true := decide_eq_true hxy
            go_wp2_with fail
            (refine wp_region_quiet (C := fun w' => ∃ t : Later _, w' = t.w) (by kernel_rfl) (by kernel_rfl) (IsLater.drew _) ?_; (repeat (first | go_big_quiet_step ((go_at_call 85; exact later_same (less_int_c _ _ _))) | quiet_step ((go_at_call 85; exact later_same (less_int_c _ _ _))))); refine wpQuiet_nil ?_; rintro _ ⟨tq, rfl⟩)
            obtain ⟨w2, hq⟩ : ∃ u, u = tq.w := ⟨_, rfl⟩
            have hb2 : Below wr.heap.size wr w2 := hq ▸ tq.h
            rw [← hq]
            clear hq
            have z0 := (hb2.cell (p := ⟨g, k, none⟩) hgl).trans e0
            have z1 := (hb2.cell (p := ⟨g, k + 1, none⟩) hgl).trans e1
            have HO3 := Aside0.mk (Kd.R_below HO2.out hb2)
            have HG3 := Aside0.mk (gr_below HG2.out hb2)
            have hfq : ∀ k : Nat, w2.frozen? ⟨g, k, none⟩ = false := fun k => (hb2.frozen (p := ⟨g, k, none⟩) hgl).trans (hfz k)
            clear e0 e1 hb2 hfz
            clear tq
            go_wp2_with fail
            have HSA := Aside0.mk (show kInt.R 3 ((w2.setCell ⟨g, k + 1, none⟩ (.int .i64 y)).setCell ⟨g, k, none⟩ (.int .i64 x)) base (fun _ => True) (.slice (some ⟨g, 0, none⟩) n cap) (A' ++ x :: (y :: B) ++ l.drop (i + 1)) by
              have h5 := int_set (int_set HO3.out (k + 1) y) k x
              rw [HAA.out, List.concat_eq_append, HK.out, swap_set, ← HK.out] at h5
              exact h5)
            have HPC := Aside0.mk (show P = A' ++ y :: B ∧ ∀ b ∈ y :: B, x < b from ⟨by rw [HPB.out.1, HAA.out, List.concat_eq_append, List.append_assoc]; rfl, fun b hb => by
              rcases List.mem_cons.1 hb with rfl | hb
              · exact hxy
              · exact HPB.out.2 b hb⟩)
            go_region
            go_wp2_with fail
            go_roundg (gk - 1)
            case measure => omega
            case rel => exact ⟨k, A', y :: B, by go_num, by omega, by omega, ⟨HK.out.symm⟩, HPC, ⟨Kd.R_below HSA.out (below_drew (Below.refl _ _))⟩, ⟨gr_drew (grownBy_trans HG3.out (grownBy_trans (grown_set _ _ _ _) (grown_set _ _ _ _)))⟩⟩
          · have hdx : decide (x < y) = false := decide_eq_false hxy
            go_wp2_with fail
            (refine wp_region_quiet (C := fun w' => ∃ t : Later _, w' = t.w) (by kernel_rfl) (by kernel_rfl) (IsLater.drew _) ?_; (repeat (first | go_big_quiet_step ((go_at_call 85; exact later_same (less_int_c _ _ _))) | quiet_step ((go_at_call 85; exact later_same (less_int_c _ _ _))))); refine wpQuiet_nil ?_; rintro _ ⟨tq, rfl⟩)
            have hq := tq.h
            have HIN := Aside0.mk (show insJ x P = A ++ x :: B by
              have h5 := HPB.out.1
              rw [HAA.out, List.concat_eq_append] at h5
              have h6 := HSR.out
              rw [h5] at h6 ⊢
              rw [HAA.out, List.concat_eq_append]
              exact ins_stop h6 HPB.out.2 (by omega))
            go_wp2_with fail
            go_roundg (g1 - 1)
            case measure => have := HMM.out; omega
            case rel => exact ⟨i + 1, by go_num, by omega, by omega, by have := HMM.out; omega, ⟨by rw [HSN.out, HIN.out]; exact Kd.R_below HO2.out hq⟩, ⟨gr_below HG2.out hq⟩⟩
    · have hfin : sortJ (l.take i) ++ l.drop i = sortJ l := by
        have := HL.out
        rw [List.take_of_length_le (by omega), List.drop_eq_nil_of_le (by omega), List.append_nil]
      go_wp2_with fail
      go_end0
      exact ⟨rfl, by have h5 := HO.out; rw [hfin] at h5; exact h5, HG.out⟩

end Go.Proofs.Ytkkimlicabbooaa

/-
  The library's sort at []int of twelve numbers or fewer: bits.Len, pdqsortOrdered, Sort.
-/
namespace Go.Proofs.Ytkkimlicabbooaa
open Go.RowKit Go.Proofs.YtkkimlicabbooaaW.PrintWords Bs
attribute [local go_sem] Later.cell? Later.frozen?
set_option linter.unusedVariables false
set_option linter.unusedSimpArgs false

set_option maxHeartbeats 3200000 in
set_option maxRecDepth 100000 in
theorem len64_c (n : Nat) (w : World) (hn : n ≤ 12) :
    Calls Try.prog 89 #[.int .u64 n] w fun e w' => (∃ k : Int, e = .returned (.int .i64 k)) ∧ w = w' := by
  obtain rfl | rfl | rfl | rfl | rfl | rfl | rfl | rfl | rfl | rfl | rfl | rfl | rfl : n = 0 ∨ n = 1 ∨ n = 2 ∨ n = 3 ∨ n = 4 ∨ n = 5 ∨ n = 6 ∨ n = 7 ∨ n = 8 ∨ n = 9 ∨ n = 10 ∨ n = 11 ∨ n = 12 := by omega
  all_goals
    go_enter Try.func89, Try.ntmps89
    go_wp2_with fail
    go_ret
    exact ⟨⟨_, rfl⟩, rfl⟩
set_option maxHeartbeats 3200000 in
set_option maxRecDepth 100000 in
theorem len_c (n : Nat) (w : World) (hn : n ≤ 12) :
    Calls Try.prog 69 #[.int .u64 n] w fun e w' => (∃ k : Int, e = .returned (.int .i64 k)) ∧ w = w' := by
  go_enter Try.func69, Try.ntmps69
  go_wp2_with (go_at_call 89; refine (len64_c n _ hn).mono ?_; rintro e w' ⟨⟨k, rfl⟩, rfl⟩)
  go_ret
  exact ⟨⟨_, rfl⟩, rfl⟩
set_option maxHeartbeats 3200000 in
set_option maxRecDepth 100000 in
theorem pdq_c (A : Option Addr) (n cap base : Nat) (l : List Int) (z : Int) (w : World) (h : kInt.R 3 w base (fun _ => True) (.slice A n cap) l) (hn : n ≤ 12) :
    Calls Try.prog 68 #[.slice A n cap, .int .i64 0, .int .i64 n, .int .i64 z] w fun e w' => e = .returned (.tuple #[]) ∧ kInt.R 3 w' base (fun _ => True) (.slice A n cap) (sortI l) ∧ w.grownBy w' (Value.slice A n cap).ownBlock := by
  rw [sort_eq]
  have H := Aside0.mk h
  have hn' : n ≤ 12 := hn
  clear h
  go_enter Try.func68, Try.ntmps68
  go_wp2_with fail
  go_loopg [1, 2] 1 (fun m a b wr => m = 1 ∧ a = .int .i64 0 ∧ b = .int .i64 n ∧ wr = w)
  case atStart => exact ⟨rfl, rfl, rfl, rfl⟩
  case round =>
    obtain ⟨rfl, rfl, rfl, rfl⟩ := hrel
    have hd : decide ((n : Int) ≤ 12) = true := decide_eq_true (by omega)
    go_wp2_with (go_at_call 79; refine (insertion_c A n cap base l _ H.out (by omega)).mono ?_; rintro e w1 ⟨rfl, h1, h2⟩)
    refine bodyPost_ret (results_none rfl _ _ _) rfl ?_
    exact ⟨rfl, h1, h2⟩
set_option maxHeartbeats 3200000 in
set_option maxRecDepth 100000 in
/-- A row of twelve numbers or fewer is sorted. -/
theorem sort_c (A : Option Addr) (n cap base : Nat) (l : List Int) (w : World) (h : kInt.R 3 w base (fun _ => True) (.slice A n cap) l) (hn : n ≤ 12) :
    Calls Try.prog 41 #[.slice A n cap] w fun e w' => e = .returned (.tuple #[]) ∧ kInt.R 3 w' base (fun _ => True) (.slice A n cap) (sortI l) ∧ w.grownBy w' (Value.slice A n cap).ownBlock := by
  have H := Aside0.mk h
  clear h
  go_enter Try.func41, Try.ntmps41
  go_wp2_with (first | (go_at_call 69; refine (len_c n _ hn).mono ?_; rintro e w' ⟨⟨k, rfl⟩, rfl⟩) | (go_at_call 68; refine (pdq_c A n cap base l _ _ H.out hn).mono ?_; rintro e w1 ⟨rfl, h1, h2⟩))
  go_end0
  exact ⟨rfl, h1, h2⟩
end Go.Proofs.Ytkkimlicabbooaa

/-
  slices.Compact at []int.
-/
namespace Go.Proofs.Ytkkimlicabbooaa
open Go.RowKit Go.Proofs.YtkkimlicabbooaaW.PrintWords Bs
attribute [local go_sem] Later.cell? Later.frozen?
set_option linter.unusedVariables false
set_option linter.unusedSimpArgs false

set_option maxHeartbeats 3200000 in
set_option maxRecDepth 100000 in
theorem compact_c (A : Option Addr) (n cap base : Nat) (l : List Int) (w : World) (h : kInt.R 3 w base (fun _ => True) (.slice A n cap) l) (hn : n < 1000000) :
    Calls Try.prog 42 #[.slice A n cap] w fun e w' => ∃ v, e = .returned v ∧ kInt.R 3 w' base (fun _ => True) v (compactI l) ∧ w.grownBy w' (Value.slice A n cap).ownBlock := by
  have hl := (row_C h).1
  have H := Aside0.mk h
  have HL := Aside0.mk hl
  clear h hl
  by_cases h2 : n < 2
  · have hd : decide ((n : Int) < 2) = true := decide_eq_true (by omega)
    have HO := Aside0.mk (compactI_one (l := l) (by rw [HL.out]; exact h2))
    go_enter Try.func42, Try.ntmps42
    go_wp2_with fail
    go_ret
    exact ⟨_, rfl, by rw [HO.out]; exact H.out, gr_refl⟩
  · have hd : decide ((n : Int) < 2) = false := decide_eq_false (by omega)
    obtain ⟨g, cap', e1, gb, gl, _⟩ := Kd.R_form H.out (by have := HL.out; omega)
    obtain ⟨rfl, rfl⟩ : A = some ⟨g, 0, none⟩ ∧ cap = cap' := by injection e1 with a b c; exact ⟨a, c⟩
    clear e1 gb gl
    go_enter Try.func42, Try.ntmps42
    go_wp2_with fail
    go_loopg [3] (n - 1) (fun m kv wr => ∃ j : Nat, kv = .int .i64 ((j + 1 : Nat) : Int) ∧ j + 1 + m = n ∧ Aside0 (compactI (l.take (j + 1)) = l.take (j + 1)) ∧ Aside0 (kInt.R 3 wr base (fun _ => True) (.slice (some ⟨g, 0, none⟩) n cap) l) ∧ Aside0 (w.grownBy wr (some g)))
    case atStart => exact ⟨0, rfl, by omega, ⟨compactI_one (by simp; omega)⟩, H, ⟨gr_refl⟩⟩
    case round =>
      obtain ⟨j, rfl, hj, HCI, HO, HG⟩ := hrel
      by_cases hlt : j + 1 < n
      · have e0 := int_at HO.out (j : Int) (by omega) (by omega)
        have e1 := int_at HO.out ((j + 1 : Nat) : Int) (by omega) (by omega)
        rw [rInt_nat] at e0 e1
        simp only [Int.toNat_natCast] at e0 e1
        have HTK := Aside0.mk (compactI_take (l := l) (k := j + 1) (by omega) (by have := HL.out; omega))
        have HTT := Aside0.mk (take_get (l := l) (k := j + 1) (z := 0) (by have := HL.out; omega))
        rw [Nat.add_sub_cancel] at HTK
        have hgl : g < wr.heap.size := cell_lt e0
        have hjn : j < n := by omega
        have hncap := (Kd.R_reads' HO.out).2.1
        have hne : ¬ cap = j + 1 := by omega
        by_cases hE : l.getD (j + 1) 0 = l.getD j 0
        · have HB := Aside0.mk (show (l.getD (j + 1) 0 == l.getD j 0) = true from beq_iff_eq.2 hE)
          have HT2 := Aside0.mk (show compactI (l.take (j + 1 + 1)) = l.take (j + 1) by rw [HTK.out, if_pos hE.symm, List.append_nil, HCI.out])
          clear hE HTK
          generalize hu : l.getD j 0 = U at e0 HB
          generalize hv : l.getD (j + 1) 0 = V at e1 HB
          clear hu hv
          go_wp2_with fail
          (refine wp_region_quiet (C := fun w' => ∃ t : Later _, w' = t.w) (by kernel_rfl) (by kernel_rfl) (IsLater.drew _) ?_; (repeat (first | go_big_quiet_step (fail) | quiet_step (fail))); refine wpQuiet_nil ?_; rintro _ ⟨tq, rfl⟩)
          have HO2 := Aside0.mk (Kd.R_below HO.out tq.h)
          have HG2 := Aside0.mk (gr_below HG.out tq.h)
          clear e0 e1
          rw [HB.out]
          go_wp2_with fail
          obtain ⟨w1, hq⟩ : ∃ u, u = tq.w := ⟨_, rfl⟩
          rw [← hq] at HO2 HG2 ⊢
          clear hq
          clear tq HO HG
          go_loopg [3, 5] (n - (j + 1)) (fun m kv qv wr => ∃ (k q : Nat) (M : List Int), kv = .int .i64 k ∧ qv = .int .i64 ((q + 1 : Nat) : Int) ∧ j + 1 + q + m = n - 1 + 1 ∧ j + 1 + (q + 1) ≤ n ∧ k ≤ j + 1 + q ∧ Aside0 ((compactI (l.take (j + 1 + (q + 1)))).length = k ∧ k + M.length = j + 1 + (q + 1)) ∧ Aside0 ((compactI (l.take (j + 1 + (q + 1))) ++ M ++ l.drop (j + 1 + (q + 1))).getD (j + 1 + q) 0 = l.getD (j + 1 + q) 0) ∧ Aside0 (kInt.R 3 wr base (fun _ => True) (.slice (some ⟨g, 0, none⟩) n cap) (compactI (l.take (j + 1 + (q + 1))) ++ M ++ l.drop (j + 1 + (q + 1)))) ∧ Aside0 (w.grownBy wr (some g)))
          case atStart =>
            have h5 : compactI (l.take (j + 1 + (0 + 1))) = l.take (j + 1) := HT2.out
            have h6 : compactI (l.take (j + 1 + (0 + 1))) ++ [l.getD (j + 1) 0] ++ l.drop (j + 1 + (0 + 1)) = l := by
              rw [h5, ← HTT.out, List.take_append_drop]
            exact ⟨j + 1, 0, [l.getD (j + 1) 0], by go_num, by go_num, by omega, by omega, by omega, ⟨by rw [h5, List.length_take]; have := HL.out; omega, by simp⟩, ⟨by rw [h6]⟩, ⟨by rw [h6]; exact HO2.out⟩, HG2⟩
          case round =>
            obtain ⟨k, q, M, rfl, rfl, hm, hp, hkp, HK, HU, HO, HG⟩ := hrel
            have hkn : k < n := by omega
            by_cases hl2 : j + 1 + (q + 1) < n
            · have hl3 : q + 1 < n - (j + 1) := by omega
              have hl4 : q < n - (j + 1) := by omega
              have e0 := int_at HO.out ((j + 1 + q : Nat) : Int) (by omega) (by omega)
              have e1 := int_at HO.out ((j + 1 + (q + 1) : Nat) : Int) (by omega) (by omega)
              rw [rInt_nat] at e0 e1
              rw [HU.out] at e0
              rw [get_mid (by have := HK.out; omega) (by have := HL.out; omega)] at e1
              simp only [Int.toNat_natCast] at e0 e1
              have HCK := Aside0.mk (show compactI (l.take (j + 1 + (q + 1 + 1))) = compactI (l.take (j + 1 + (q + 1))) ++ (if l.getD (j + 1 + q) 0 = l.getD (j + 1 + (q + 1)) 0 then [] else [l.getD (j + 1 + (q + 1)) 0]) from compactI_take (k := j + 1 + (q + 1)) (by omega) (by have := HL.out; omega))
              have HDR := Aside0.mk (show l.drop (j + 1 + (q + 1)) = l.getD (j + 1 + (q + 1)) 0 :: l.drop (j + 1 + (q + 1 + 1)) from drop_get (l := l) (k := j + 1 + (q + 1)) (z := 0) (by have := HL.out; omega))
              have HGM := Aside0.mk (show (compactI (l.take (j + 1 + (q + 1))) ++ M ++ l.drop (j + 1 + (q + 1))).getD (j + 1 + (q + 1)) 0 = l.getD (j + 1 + (q + 1)) 0 from get_mid (by have := HK.out; omega) (by have := HL.out; omega))
              have hg3 : g < wr.heap.size := cell_lt e0
              have hfz := (R_own1 HO.out (by omega)).1
              by_cases hE : l.getD (j + 1 + (q + 1)) 0 = l.getD (j + 1 + q) 0
              · have HE := Aside0.mk hE
                have HB2 := Aside0.mk (show (l.getD (j + 1 + (q + 1)) 0 != l.getD (j + 1 + q) 0) = false by rw [hE]; simp only [bne_self_eq_false])
                clear hE
                generalize hu : l.getD (j + 1 + q) 0 = U2 at e0 HB2
                generalize hv : l.getD (j + 1 + (q + 1)) 0 = V2 at e1 HB2
                clear hu hv
                go_wp2_with fail
                (refine wp_region_quiet (C := fun w' => ∃ t : Later _, w' = t.w) (by kernel_rfl) (by kernel_rfl) (IsLater.drew _) ?_; (repeat (first | go_big_quiet_step (fail) | quiet_step (fail))); refine wpQuiet_nil ?_; rintro _ ⟨tq, rfl⟩)
                have HO3 := Aside0.mk (Kd.R_below HO.out tq.h)
                have HG3 := Aside0.mk (gr_below HG.out tq.h)
                rw [HB2.out]
                go_wp2_with fail
                go_roundg (gk - 1)
                case measure => omega
                case rel =>
                  have h5 : compactI (l.take (j + 1 + (q + 1 + 1))) = compactI (l.take (j + 1 + (q + 1))) := by rw [HCK.out, if_pos HE.out.symm, List.append_nil]
                  have h6 : compactI (l.take (j + 1 + (q + 1))) ++ (M ++ [l.getD (j + 1 + (q + 1)) 0]) ++ l.drop (j + 1 + (q + 1 + 1)) = compactI (l.take (j + 1 + (q + 1))) ++ M ++ l.drop (j + 1 + (q + 1)) := by rw [HDR.out]; simp
                  exact ⟨k, q + 1, M ++ [l.getD (j + 1 + (q + 1)) 0], rfl, by go_num, by omega, by omega, by omega, ⟨by rw [h5]; exact HK.out.1, by have := HK.out.2; simp; omega⟩, ⟨by rw [h5, h6]; exact HGM.out⟩, ⟨by rw [h5, h6]; exact HO3.out⟩, HG3⟩
              · have HE := Aside0.mk hE
                have HB2 := Aside0.mk (show (l.getD (j + 1 + (q + 1)) 0 != l.getD (j + 1 + q) 0) = true from bne_iff_ne.2 hE)
                have HMN := Aside0.mk (show M ≠ [] by rintro rfl; have := HK.out.2; simp at this; omega)
                have HVV := Aside0.mk (show l.getD (j + 1 + (q + 1)) 0 = l.getD (j + 1 + (q + 1)) 0 from rfl)
                clear hE
                generalize hu : l.getD (j + 1 + q) 0 = U2 at e0 HB2
                generalize hv : l.getD (j + 1 + (q + 1)) 0 = V2 at e1 HB2
                have HVE := Aside0.mk hv
                clear hu hv
                go_wp2_with fail
                (refine wp_region_quiet (C := fun w' => ∃ t : Later _, w' = t.w) (by kernel_rfl) (by kernel_rfl) (IsLater.drew _) ?_; (repeat (first | go_big_quiet_step (fail) | quiet_step (fail))); refine wpQuiet_nil ?_; rintro _ ⟨tq, rfl⟩)
                have HO3 := Aside0.mk (Kd.R_below HO.out tq.h)
                have HG3 := Aside0.mk (gr_below HG.out tq.h)
                rw [HB2.out]
                obtain ⟨w2, hq⟩ : ∃ u, u = tq.w := ⟨_, rfl⟩
                have hb2 : Below wr.heap.size wr w2 := hq ▸ tq.h
                rw [← hq] at HO3 HG3 ⊢
                clear hq
                have z1 := (hb2.cell (p := ⟨g, j + 1 + (q + 1), none⟩) hg3).trans e1
                have hfq : ∀ k : Nat, w2.frozen? ⟨g, k, none⟩ = false := fun k => (hb2.frozen (p := ⟨g, k, none⟩) hg3).trans (hfz k)
                have zk := int_at HO3.out (k : Int) (by omega) (by omega)
                simp only [Int.toNat_natCast] at zk
                have HST := Aside0.mk (int_set HO3.out k V2)
                generalize hrk : rInt (compactI (l.take (j + 1 + (q + 1))) ++ M ++ l.drop (j + 1 + (q + 1))) (k : Int) = UK at zk
                clear hrk
                clear e0 e1 hb2 hfz tq
                go_wp2_with fail
                go_roundg (gk - 1)
                case measure => omega
                case rel =>
                  have h5 : compactI (l.take (j + 1 + (q + 1 + 1))) = compactI (l.take (j + 1 + (q + 1))) ++ [V2] := by rw [HCK.out, if_neg (fun h => HE.out h.symm), HVE.out]
                  have h6 : (compactI (l.take (j + 1 + (q + 1))) ++ M ++ l.drop (j + 1 + (q + 1))).set k V2 = (compactI (l.take (j + 1 + (q + 1))) ++ [V2]) ++ (M.tail ++ [V2]) ++ l.drop (j + 1 + (q + 1 + 1)) := by
                    rw [← HK.out.1, set_mid HMN.out, HDR.out, HVE.out]; simp
                  have h7 := HST.out
                  rw [h6] at h7
                  have h8 : ((compactI (l.take (j + 1 + (q + 1))) ++ [V2]) ++ (M.tail ++ [V2]) ++ l.drop (j + 1 + (q + 1 + 1))).getD (j + 1 + (q + 1)) 0 = V2 := by
                    rw [← h6, List.getD_eq_getElem?_getD, List.getElem?_set_ne (by omega), ← List.getD_eq_getElem?_getD, HGM.out, HVE.out]
                  exact ⟨k + 1, q + 1, M.tail ++ [V2], by go_num, by go_num, by omega, by omega, by omega, ⟨by rw [h5, List.length_append, HK.out.1]; rfl, by have := HK.out.2; have := List.length_pos_iff.2 HMN.out; simp; omega⟩, ⟨by rw [h5, HVE.out]; exact h8⟩, ⟨by rw [h5]; exact h7⟩, ⟨grownBy_trans HG3.out (grown_set _ _ _ _)⟩⟩
            · have hl3 : ¬ (q + 1 < n - (j + 1)) := by omega
              have HPN := Aside0.mk (show j + 1 + (q + 1) = n by omega)
              have hnek : ¬ cap = k := by omega
              have hfz := (R_own1 HO.out (by omega)).1
              have hce : ∀ k, k < n → (wr.cell? ⟨g, k, none⟩).isSome = true := fun k hk => by have := int_at HO.out (k : Int) (by omega) (by omega); simp only [Int.toNat_natCast] at this; rw [this]; rfl
              have hcl : ∀ ty, (Builtin.clear_ #[52] ty #[.slice (some ⟨g, k, none⟩) (n - k) (cap - k)]).run Try.prog wr = .ok (.tuple #[]) (wr.setCells g k (List.replicate (n - k) (.int .i64 0))) :=
                fun ty => Lib.run_clear_slice wr _ _ ty _ Try.underlying52 zeroInt rfl rfl g k _ _ (by omega) (fun i hi => hce _ (by omega)) (fun i hi => hfz _)
              have HCL := Aside0.mk (R_clear (n - k) k wr _ HO.out)
              clear hce
              go_wp2_with fail
              go_ret
              obtain ⟨ys, k1, k2, k3, k4⟩ := HCL.out
              have hln : l.take n = l := List.take_of_length_le (by have := HL.out; omega)
              have hi1 := HK.out.1
              rw [HPN.out, hln] at k2 hi1 k3
              rw [← hi1, List.append_assoc, List.take_left' rfl] at k2
              refine ⟨_, rfl, ?_, grownBy_trans HG.out k4⟩
              have k5 := Kd.R_take (m := k) k1 (by rw [k3]; simp; omega)
              rw [← hi1, k2, hi1] at k5
              exact k5
        · have HB := Aside0.mk (show (l.getD (j + 1) 0 == l.getD j 0) = false from beq_eq_false_iff_ne.2 hE)
          have HT2 := Aside0.mk (show compactI (l.take (j + 1 + 1)) = l.take (j + 1 + 1) by rw [HTK.out, if_neg (fun h => hE h.symm), HTT.out, HCI.out])
          clear hE HTK
          generalize hu : l.getD j 0 = U at e0 HB
          generalize hv : l.getD (j + 1) 0 = V at e1 HB
          clear hu hv
          go_wp2_with fail
          (refine wp_region_quiet (C := fun w' => ∃ t : Later _, w' = t.w) (by kernel_rfl) (by kernel_rfl) (IsLater.drew _) ?_; (repeat (first | go_big_quiet_step (fail) | quiet_step (fail))); refine wpQuiet_nil ?_; rintro _ ⟨tq, rfl⟩)
          have HO2 := Aside0.mk (Kd.R_below HO.out tq.h)
          have HG2 := Aside0.mk (gr_below HG.out tq.h)
          clear e0 e1
          rw [HB.out]
          go_wp2_with fail
          go_roundg (gk - 1)
          case measure => omega
          case rel => exact ⟨j + 1, by go_num, by omega, HT2, HO2, HG2⟩
      · have HFI := Aside0.mk (show compactI l = l by
          have h5 := HCI.out
          rw [List.take_of_length_le (by have := HL.out; omega)] at h5
          exact h5)
        go_wp2_with fail
        go_ret
        exact ⟨_, rfl, by rw [HFI.out]; exact HO.out, HG.out⟩
end Go.Proofs.Ytkkimlicabbooaa

/-
  slices.Contains at []int, and the closures that keep a fact.
-/
namespace Go.Proofs.Ytkkimlicabbooaa
open Go.RowKit Go.Proofs.YtkkimlicabbooaaW.PrintWords Bs
attribute [local go_sem] Later.cell? Later.frozen?
set_option linter.unusedVariables false
set_option linter.unusedSimpArgs false

set_option maxHeartbeats 1600000 in
theorem keepCore_c (A : Option Addr) (n c b : Nat) (l : List Int) (x : Int) (w : World) (hb : w.cell? ⟨b, 0, none⟩ = some (.slice A n c)) (h : kInt.C w A n l) (hn : n < 1000000) :
    Calls Try.prog 47 #[.int .i64 x, .pointer (some ⟨b, 0, none⟩)] w fun e w' => e = .returned (.bool (keepP l x)) ∧ Below w.heap.size w w' := by
  have H := Aside0.mk h
  clear h
  by_cases h0 : x = 0
  · subst h0
    go_enter Try.func47, Try.ntmps47
    go_wp2_with fail
    go_ret
    exact ⟨rfl, Below.refl _ _⟩
  · have h1 : (x == 0) = false := beq_eq_false_iff_ne.2 h0
    go_enter Try.func47, Try.ntmps47
    clear h0
    go_wp2_with (go_at_call 48; refine (contains_c A n c l x _ H.out (by omega)).mono ?_; rintro e w1 ⟨rfl, hb⟩)
    go_ret
    exact ⟨by simp [keepP, h1], hb⟩
set_option maxHeartbeats 1600000 in
theorem keepOnly_c (A : Option Addr) (n c b : Nat) (l : List Int) (x : Int) (w : World) (hb : w.cell? ⟨b, 0, none⟩ = some (.slice A n c)) (h : kInt.C w A n l) (hn : n < 1000000) :
    Calls Try.prog 49 #[.int .i64 x, .pointer (some ⟨b, 0, none⟩)] w fun e w' => e = .returned (.bool (keepP l x)) ∧ Below w.heap.size w w' := by
  have H := Aside0.mk h
  clear h
  by_cases h0 : x = 0
  · subst h0
    go_enter Try.func49, Try.ntmps49
    go_wp2_with fail
    go_ret
    exact ⟨rfl, Below.refl _ _⟩
  · have h1 : (x == 0) = false := beq_eq_false_iff_ne.2 h0
    go_enter Try.func49, Try.ntmps49
    clear h0
    go_wp2_with (go_at_call 48; refine (contains_c A n c l x _ H.out (by omega)).mono ?_; rintro e w1 ⟨rfl, hb⟩)
    go_ret
    exact ⟨by simp [keepP, h1], hb⟩
set_option maxHeartbeats 1600000 in
theorem keepWithout_c (A : Option Addr) (n c b : Nat) (l : List Int) (x : Int) (w : World) (hb : w.cell? ⟨b, 0, none⟩ = some (.slice A n c)) (h : kInt.C w A n l) (hn : n < 1000000) :
    Calls Try.prog 51 #[.int .i64 x, .pointer (some ⟨b, 0, none⟩)] w fun e w' => e = .returned (.bool (!hasP l x)) ∧ Below w.heap.size w w' := by
  have H := Aside0.mk h
  clear h
  go_enter Try.func51, Try.ntmps51
  go_wp2_with (go_at_call 48; refine (contains_c A n c l x _ H.out (by omega)).mono ?_; rintro e w1 ⟨rfl, hb⟩)
  go_ret
  exact ⟨rfl, hb⟩
end Go.Proofs.Ytkkimlicabbooaa
