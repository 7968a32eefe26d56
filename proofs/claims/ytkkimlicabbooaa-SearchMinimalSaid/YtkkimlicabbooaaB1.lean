/-
  Package search, walked: part 1.
-/
import Derived.Test.YtkkimlicabbooaaProg
import Derived.Test.YtkkimlicabbooaaP1
import Derived.Test.YtkkimlicabbooaaS0
import Derived.OrdersHeld
import Derived.Laws.BitsLemmas
import Derived.BigQuiet
import Derived.Deep.QuietTactic
import Derived.KernelRfl
import Derived.Outline
import Derived.BigRegion
import Derived.Deep.RegionHeld3
import Derived.RegionTactic
import Derived.Deep.Quiet
import Derived.StillTail
import Derived.Below
import Derived.Deep.LoopGhost
import Derived.WalkSpells
import Derived.RangeFuncNested
import Derived.RangeFuncBound
import Derived.RangeFuncCalls
import Derived.RangeFuncLeaves
import Derived.Shelf.Abstract
import Derived.Shelf.RegionOpen
import Derived.WalkKit
import Derived.OwnWalkIn
import Derived.TacticsInMore
import Derived.LoopNIn
import Derived.LoopIn
import Derived.OrdersIn
/-
  What all texts of this seat use: words on worlds, the smallest functions of package search.
-/
namespace Go.Proofs.Ytkkimlicabbooaa
open Go.RowKit Go.Proofs.YtkkimlicabbooaaW.PrintWords Bs
set_option linter.unusedVariables false
set_option linter.unusedSimpArgs false

theorem bstep {B : Nat} {w W w2 : World} (h : Below B w W) (k : Below W.heap.size W w2) (hB : B ≤ W.heap.size := by first | exact Below.size ‹_› | (simp; omega)) : Below B w w2 := below_then h hB k
theorem bstep' {w W w2 : World} (h : Below w.heap.size w W) (k : Below W.heap.size W w2) : Below w.heap.size w w2 := below_then h h.size k
theorem bcell {W w1 : World} (hb : Below W.heap.size W w1) : (∀ b o, b < W.heap.size → w1.cell? ⟨b, o, none⟩ = W.cell? ⟨b, o, none⟩) ∧ (∀ b o, b < W.heap.size → w1.frozen? ⟨b, o, none⟩ = W.frozen? ⟨b, o, none⟩) ∧ W.heap.size ≤ w1.heap.size :=
  ⟨fun b o h => hb.cell (p := ⟨b, o, none⟩) h, fun b o h => hb.frozen (p := ⟨b, o, none⟩) h, hb.size⟩

set_option maxHeartbeats 400000 in
theorem within_c (n lo hi : Int) (w : World) :
    Calls Try.prog 52 #[.int .i64 n, .int .i64 lo, .int .i64 hi] w fun e w' => e = .returned (.bool (withinB n lo hi)) ∧ w = w' := by
  unfold withinB
  by_cases h : lo ≤ n
  · go_enter Try.func52, Try.ntmps52
    go_wp2
    go_ret
    exact ⟨by simp [h], rfl⟩
  · go_enter Try.func52, Try.ntmps52
    go_wp2
    go_ret
    exact ⟨by simp; omega, rfl⟩

set_option maxHeartbeats 400000 in
theorem span_c (a b lo hi : Int) (w : World) :
    Calls Try.prog 55 #[.agg #[.int .i64 a, .int .i64 b], .int .i64 lo, .int .i64 hi] w fun e w' => e = .returned (.bool (spanB a b lo hi)) ∧ Below w.heap.size w w' := by
  unfold spanB
  by_cases h : lo ≤ a
  · by_cases h2 : a ≤ b
    · go_enter Try.func55, Try.ntmps55
      go_wp2
      go_ret
      exact ⟨by simp [h, h2], (Below.refl _ _).alloc (Nat.le_refl _) _⟩
    · go_enter Try.func55, Try.ntmps55
      go_wp2
      go_ret
      exact ⟨by simp; omega, (Below.refl _ _).alloc (Nat.le_refl _) _⟩
  · go_enter Try.func55, Try.ntmps55
    go_wp2
    go_ret
    exact ⟨by simp; omega, (Below.refl _ _).alloc (Nat.le_refl _) _⟩

set_option maxHeartbeats 400000 in
theorem size_c (a b : Int) (w : World) (h : b - a + 1 < 9223372036854775808) (h1 : -9223372036854775808 ≤ b - a) :
    Calls Try.prog 31 #[.agg #[.int .i64 a, .int .i64 b]] w fun e w' => e = .returned (.int .i64 (b - a + 1)) ∧ Below w.heap.size w w' := by
  go_enter Try.func31, Try.ntmps31
  go_wp2
  go_ret
  exact ⟨by simp, (Below.refl _ _).alloc (Nat.le_refl _) _⟩

set_option maxHeartbeats 400000 in
theorem valid_c (b : Bx) (w : World) :
    Calls Try.prog 30 #[.agg #[.int .i64 b.x.lo, .int .i64 b.x.hi, .int .i64 b.y.lo, .int .i64 b.y.hi]] w fun e w' => e = .returned (.bool (validB b)) ∧ Below w.heap.size w w' := by
  unfold validB
  go_enter Try.func30, Try.ntmps30
  go_wp2_with (go_at_call 55; refine (span_c _ _ _ _ _).mono ?_; rintro e w1 ⟨rfl, hb1⟩; obtain ⟨hc1, hf1, hz1⟩ := bcell hb1; try simp only [World.size_alloc, World.size_setCell] at hz1)
  all_goals (go_ret; exact ⟨by simp [*], (by repeat (first | (with_reducible exact Below.refl _ _) | (with_reducible exact HB.out) | (with_reducible apply below_alloc) | (with_reducible apply below_drew) | (with_reducible apply pw_below_drewN) | (with_reducible refine bstep' ?_ (by assumption)) | ((with_reducible refine Below.setCell ?_ ?_ _); rotate_left; (first | (dsimp only; omega) | (simp; done) | (simp; omega) | omega))))⟩)

set_option maxHeartbeats 1000000 in
set_option maxRecDepth 100000 in
theorem formed_c (f : Fct) (n : Int) (w : World) (hn : 0 ≤ n) (hn2 : n ≤ 9223372036854775807) :
    Calls Try.prog 32 #[.agg #[.int .i64 f.id, .int .i64 f.kind, .bool f.no, .int .i64 f.a, .int .i64 f.b, .int .i64 f.c, .int .i64 f.span.lo, .int .i64 f.span.hi, .int .i64 f.quarter], .int .i64 n] w fun e w' => e = .returned (.bool (formedB f n)) ∧ Below w.heap.size w w' := by
  go_enter Try.func32, Try.ntmps32
  go_wp2_with (first | (go_at_call 52; refine (within_c _ _ _ _).mono ?_; rintro e w1 ⟨rfl, rfl⟩) | (go_at_call 55; refine (span_c _ _ _ _ _).mono ?_; rintro e w1 ⟨rfl, hb1⟩; obtain ⟨hc1, hf1, hz1⟩ := bcell hb1; try simp only [World.size_alloc, World.size_setCell] at hz1))
  all_goals (go_ret; refine ⟨?_, (by repeat (first | (with_reducible exact Below.refl _ _) | (with_reducible exact HB.out) | (with_reducible apply below_alloc) | (with_reducible apply below_drew) | (with_reducible apply pw_below_drewN) | (with_reducible refine bstep' ?_ (by assumption)) | ((with_reducible refine Below.setCell ?_ ?_ _); rotate_left; (first | (dsimp only; omega) | (simp; done) | (simp; omega) | omega))))⟩)
  all_goals (first | (simp_all [formedB]; done) | (simp_all [formedB]; omega) | (simp_all [formedB]; rw [Bool.eq_iff_iff]; simp_all [and_assoc]))

end Go.Proofs.Ytkkimlicabbooaa

/-
  Contracts of the small functions on spans of package search: less, amount, turn, corners, valued.
-/
namespace Go.Proofs.Ytkkimlicabbooaa
open Go.RowKit Go.Proofs.YtkkimlicabbooaaW.PrintWords Bs
set_option linter.unusedVariables false
set_option linter.unusedSimpArgs false

set_option maxHeartbeats 400000 in
theorem less_c (a b c d : Int) (w : World) (ha : -1099511627776 ≤ a ∧ a ≤ 1099511627776) (hb : -1099511627776 ≤ b ∧ b ≤ 1099511627776) (hc : -1099511627776 ≤ c ∧ c ≤ 1099511627776) (hd : -1099511627776 ≤ d ∧ d ≤ 1099511627776) :
    Calls Try.prog 109 #[.agg #[.int .i64 a, .int .i64 b], .agg #[.int .i64 c, .int .i64 d]] w fun e w' => e = .returned (.agg #[.int .i64 (a - d), .int .i64 (b - c)]) ∧ Below w.heap.size w w' := by
  go_enter Try.func109, Try.ntmps109
  go_wp2
  exact bodyPost_ret (v := .agg #[.int .i64 (a - d), .int .i64 (b - c)]) (by simp [results, Try.results109, go_sem]) rfl ⟨rfl, (by repeat (first | (with_reducible exact Below.refl _ _) | (with_reducible exact HB.out) | (with_reducible apply below_alloc) | (with_reducible apply below_drew) | (with_reducible apply pw_below_drewN) | (with_reducible refine bstep' ?_ (by assumption)) | ((with_reducible refine Below.setCell ?_ ?_ _); rotate_left; (first | (dsimp only; omega) | (simp; done) | (simp; omega) | omega))))⟩

set_option maxHeartbeats 400000 in
theorem amount_c (a b : Int) (w : World) (ha : -4503599627370496 ≤ a ∧ a ≤ 4503599627370496) (hb : -4503599627370496 ≤ b ∧ b ≤ 4503599627370496) :
    Calls Try.prog 104 #[.agg #[.int .i64 a, .int .i64 b]] w fun e w' => e = .returned (.agg #[.int .i64 (amtLo a b), .int .i64 (amtHi a b)]) ∧ Below w.heap.size w w' := by
  unfold amtLo amtHi
  by_cases h : 0 ≤ a
  · rw [if_pos h, if_pos h]
    go_enter Try.func104, Try.ntmps104
    go_wp2
    exact bodyPost_ret (v := .agg #[.int .i64 a, .int .i64 b]) (by simp [results, Try.results104, go_sem]) rfl ⟨rfl, (by repeat (first | (with_reducible exact Below.refl _ _) | (with_reducible exact HB.out) | (with_reducible apply below_alloc) | (with_reducible apply below_drew) | (with_reducible apply pw_below_drewN) | (with_reducible refine bstep' ?_ (by assumption)) | ((with_reducible refine Below.setCell ?_ ?_ _); rotate_left; (first | (dsimp only; omega) | (simp; done) | (simp; omega) | omega))))⟩
  · rw [if_neg h, if_neg h]
    by_cases h2 : b ≤ 0
    · rw [if_pos h2, if_pos h2]
      go_enter Try.func104, Try.ntmps104
      go_wp2
      exact bodyPost_ret (v := .agg #[.int .i64 (-b), .int .i64 (-a)]) (by simp [results, Try.results104, go_sem]) rfl ⟨rfl, (by repeat (first | (with_reducible exact Below.refl _ _) | (with_reducible exact HB.out) | (with_reducible apply below_alloc) | (with_reducible apply below_drew) | (with_reducible apply pw_below_drewN) | (with_reducible refine bstep' ?_ (by assumption)) | ((with_reducible refine Below.setCell ?_ ?_ _); rotate_left; (first | (dsimp only; omega) | (simp; done) | (simp; omega) | omega))))⟩
    · rw [if_neg h2, if_neg h2]
      by_cases h3 : -a < b
      · rw [if_pos h3]
        go_enter Try.func104, Try.ntmps104
        go_wp2
        exact bodyPost_ret (v := .agg #[.int .i64 0, .int .i64 b]) (by simp [results, Try.results104, go_sem]) rfl ⟨rfl, (by repeat (first | (with_reducible exact Below.refl _ _) | (with_reducible exact HB.out) | (with_reducible apply below_alloc) | (with_reducible apply below_drew) | (with_reducible apply pw_below_drewN) | (with_reducible refine bstep' ?_ (by assumption)) | ((with_reducible refine Below.setCell ?_ ?_ _); rotate_left; (first | (dsimp only; omega) | (simp; done) | (simp; omega) | omega))))⟩
      · rw [if_neg h3]
        go_enter Try.func104, Try.ntmps104
        go_wp2
        exact bodyPost_ret (v := .agg #[.int .i64 0, .int .i64 (-a)]) (by simp [results, Try.results104, go_sem]) rfl ⟨rfl, (by repeat (first | (with_reducible exact Below.refl _ _) | (with_reducible exact HB.out) | (with_reducible apply below_alloc) | (with_reducible apply below_drew) | (with_reducible apply pw_below_drewN) | (with_reducible refine bstep' ?_ (by assumption)) | ((with_reducible refine Below.setCell ?_ ?_ _); rotate_left; (first | (dsimp only; omega) | (simp; done) | (simp; omega) | omega))))⟩

set_option maxHeartbeats 400000 in
theorem turn_c (ax ay bx y cx cy : Int) (w : World) (h1 : -1125899906842624 ≤ ax ∧ ax ≤ 1125899906842624) (h2 : -1125899906842624 ≤ ay ∧ ay ≤ 1125899906842624) (h3 : -1125899906842624 ≤ bx ∧ bx ≤ 1125899906842624) (h4 : -1125899906842624 ≤ y ∧ y ≤ 1125899906842624) (h5 : -1125899906842624 ≤ cx ∧ cx ≤ 1125899906842624) (h6 : -1125899906842624 ≤ cy ∧ cy ≤ 1125899906842624)
    (p1 : -1125899906842624 ≤ (bx - ax) * (cy - ay) ∧ (bx - ax) * (cy - ay) ≤ 1125899906842624) (p2 : -1125899906842624 ≤ (y - ay) * (cx - ax) ∧ (y - ay) * (cx - ax) ≤ 1125899906842624) :
    Calls Try.prog 107 #[.agg #[.int .i64 ax, .int .i64 ay], .agg #[.int .i64 bx, .int .i64 y], .agg #[.int .i64 cx, .int .i64 cy]] w fun e w' => e = .returned (.int .i64 ((bx - ax) * (cy - ay) - (y - ay) * (cx - ax))) ∧ Below w.heap.size w w' := by
  go_enter Try.func107, Try.ntmps107
  go_wp2
  go_ret
  exact ⟨rfl, (by repeat (first | (with_reducible exact Below.refl _ _) | (with_reducible exact HB.out) | (with_reducible apply below_alloc) | (with_reducible apply below_drew) | (with_reducible apply pw_below_drewN) | (with_reducible refine bstep' ?_ (by assumption)) | ((with_reducible refine Below.setCell ?_ ?_ _); rotate_left; (first | (dsimp only; omega) | (simp; done) | (simp; omega) | omega))))⟩

set_option maxHeartbeats 800000 in
theorem valued_c (f : Fct) (s : Value) (lo hi : Int) (w : World) :
    Calls Try.prog 105 #[.agg #[.int .i64 f.id, .int .i64 f.kind, .bool f.no, .int .i64 f.a, .int .i64 f.b, .int .i64 f.c, .int .i64 f.span.lo, .int .i64 f.span.hi, .int .i64 f.quarter, s], .agg #[.int .i64 lo, .int .i64 hi]] w fun e w' => e = .returned (.tuple #[.bool (canV f lo hi), .bool (mustV f lo hi)]) ∧ Below w.heap.size w w' := by
  by_cases h1 : lo ≤ f.span.hi
  · by_cases h2 : f.span.lo ≤ lo
    · go_enter Try.func105, Try.ntmps105
      go_wp2
      go_quiet (fail)
      go_wp2
      go_ret2
      exact ⟨by simp [canV, mustV, *], (by repeat (first | (with_reducible exact Below.refl _ _) | (with_reducible exact HB.out) | (with_reducible apply below_alloc) | (with_reducible apply below_drew) | (with_reducible apply pw_below_drewN) | (with_reducible refine bstep' ?_ (by assumption)) | ((with_reducible refine Below.setCell ?_ ?_ _); rotate_left; (first | (dsimp only; omega) | (simp; done) | (simp; omega) | omega))))⟩
    · have h2' : decide (f.span.lo ≤ lo) = false := by simpa using h2
      go_enter Try.func105, Try.ntmps105
      go_wp2
      go_quiet (fail)
      go_wp2
      go_ret2
      exact ⟨by simp [canV, mustV, *], (by repeat (first | (with_reducible exact Below.refl _ _) | (with_reducible exact HB.out) | (with_reducible apply below_alloc) | (with_reducible apply below_drew) | (with_reducible apply pw_below_drewN) | (with_reducible refine bstep' ?_ (by assumption)) | ((with_reducible refine Below.setCell ?_ ?_ _); rotate_left; (first | (dsimp only; omega) | (simp; done) | (simp; omega) | omega))))⟩
  · have h1' : decide (lo ≤ f.span.hi) = false := by simpa using h1
    by_cases h2 : f.span.lo ≤ lo
    · go_enter Try.func105, Try.ntmps105
      go_wp2
      go_quiet (fail)
      go_wp2
      go_ret2
      exact ⟨by simp [canV, mustV, *], (by repeat (first | (with_reducible exact Below.refl _ _) | (with_reducible exact HB.out) | (with_reducible apply below_alloc) | (with_reducible apply below_drew) | (with_reducible apply pw_below_drewN) | (with_reducible refine bstep' ?_ (by assumption)) | ((with_reducible refine Below.setCell ?_ ?_ _); rotate_left; (first | (dsimp only; omega) | (simp; done) | (simp; omega) | omega))))⟩
    · have h2' : decide (f.span.lo ≤ lo) = false := by simpa using h2
      go_enter Try.func105, Try.ntmps105
      go_wp2
      go_quiet (fail)
      go_wp2
      go_ret2
      exact ⟨by simp [canV, mustV, *], (by repeat (first | (with_reducible exact Below.refl _ _) | (with_reducible exact HB.out) | (with_reducible apply below_alloc) | (with_reducible apply below_drew) | (with_reducible apply pw_below_drewN) | (with_reducible refine bstep' ?_ (by assumption)) | ((with_reducible refine Below.setCell ?_ ?_ _); rotate_left; (first | (dsimp only; omega) | (simp; done) | (simp; omega) | omega))))⟩

set_option maxHeartbeats 400000 in
theorem corners_c (a b c d : Int) (w : World) :
    Calls Try.prog 106 #[.agg #[.int .i64 a, .int .i64 b, .int .i64 c, .int .i64 d]] w fun e w' => e = .returned (.agg #[.int .i64 a, .int .i64 c, .int .i64 a, .int .i64 d, .int .i64 b, .int .i64 c, .int .i64 b, .int .i64 d]) ∧ Below w.heap.size w w' := by
  go_enter Try.func106, Try.ntmps106
  go_wp2
  exact bodyPost_ret (v := .agg #[.int .i64 a, .int .i64 c, .int .i64 a, .int .i64 d, .int .i64 b, .int .i64 c, .int .i64 b, .int .i64 d]) (by simp [results, Try.results106, go_sem]) rfl ⟨rfl, (by repeat (first | (with_reducible exact Below.refl _ _) | (with_reducible exact HB.out) | (with_reducible apply below_alloc) | (with_reducible apply below_drew) | (with_reducible apply pw_below_drewN) | (with_reducible refine bstep' ?_ (by assumption)) | ((with_reducible refine Below.setCell ?_ ?_ _); rotate_left; (first | (dsimp only; omega) | (simp; done) | (simp; omega) | omega))))⟩

end Go.Proofs.Ytkkimlicabbooaa

/-
  Regions that draw their order: the operations ahead yield one value in every later world, a short tail writes. No program in sight.
-/
namespace Go.Proofs.Ytkkimlicabbooaa
open Go.RowKit

section
variable {P : Program} {ops : Array Oper} {md : Region.Mode} {C : World → Prop}

theorem wpAny_more {Q : Exit → Act → World → Prop} : ∀ (f : Nat) (listed : Array Bool) (a : Act) (w : World), wpAny P md ops Q f listed a w → wpAny P md ops Q (f + 1) listed a w
  | 0, _, _, _, h => ⟨fun _ => h.2, fun i hi => by rw [h.1] at hi; cases hi⟩
  | f + 1, _, _, _, h => ⟨h.1, fun i hi => wpOp_mono (fun a w h' => wpAny_more f _ a w h') (h.2 i hi)⟩
theorem wpAny_add {Q : Exit → Act → World → Prop} {f : Nat} {listed : Array Bool} {a : Act} {w : World} (h : wpAny P md ops Q f listed a w) : ∀ k, wpAny P md ops Q (k + f) listed a w
  | 0 => by rwa [Nat.zero_add]
  | k + 1 => by rw [Nat.succ_add]; exact wpAny_more _ _ _ _ (wpAny_add h k)

theorem quiet_lex {Q : Act → Prop} (hs : Region.noSelect ops = true) : ∀ (l : List Oper) (k : Nat) (listed : Array Bool) (a : Act), (∀ j, j < l.length → l[j]? = ops[k + j]?) →
    Region.lexFrom md ops l.length k listed = true → wpQuiet P ops C Q l a → wpAnyQ P md ops C Q l.length listed a
  | [], _, _, _, _, hB, h => ⟨by simpa [Region.lexFrom] using hB, h⟩
  | o :: l, k, listed, a, hl, hB, h => by
    have h0 : ops[k]? = some o := by simpa using (hl 0 (by simp)).symm
    simp only [List.length_cons, Region.lexFrom, Bool.and_eq_true] at hB
    have hst : qOp P ops C k (wpQuiet P ops C Q l) a := by unfold qOp; simp only [h0]; exact h
    obtain ⟨v, hy, hK⟩ := yieldsIn_of_qOp h0 hst
    exact wpAnyQ_first h0 (Region.noSelect_spec hs) l.length listed a (Region.free_spec h0 hB.1.2) (by simpa using hB.1.1) hy
      (quiet_lex hs l (k + 1) _ _ (fun j hj => by have := hl (j + 1) (by simp; omega); simpa [Nat.add_assoc, Nat.add_comm 1 j] using this) hB.2 hK)

/-- What stands ahead leans on what stands before it alone; the tail waits for all that stands ahead. -/
def headB (md : Region.Mode) (ops : Array Oper) (n : Nat) : Bool :=
  (List.range n).all fun i => match ops[i]? with | some o => o.after.all fun e => !Region.binds md e || decide (e.on < i) | none => false
def headListed (n g : Nat) : Array Bool := Array.replicate n true ++ Array.replicate g false
def tailListed (n g : Nat) : Array Bool := Array.replicate n false ++ Array.replicate g true

structure Two (md : Region.Mode) (ops : Array Oper) (n N : Nat) (real mark : Array Bool) : Prop where
  inv : HeadInv md ops n real
  rs : real.size = N
  ms : mark.size = N
  same : ∀ j, j < n → real.getD j true = mark.getD j true
  off : ∀ t, n ≤ t → t < N → real.getD t true = false
  on : ∀ t, n ≤ t → t < N → mark.getD t true = true

theorem getD_eq_in {l : Array Bool} {j : Nat} (h : j < l.size) : l.getD j false = l.getD j true := by simp [h]

theorem least {f : Nat → Bool} : ∀ n, (∃ i, i < n ∧ f i = false) → ∃ i, i < n ∧ f i = false ∧ ∀ j, j < i → f j = true
  | 0, ⟨i, h, _⟩ => by omega
  | n + 1, ⟨i, h, hf⟩ => by
    by_cases e : ∃ i, i < n ∧ f i = false
    · obtain ⟨i, h1, h2, h3⟩ := least n e
      exact ⟨i, by omega, h2, h3⟩
    · have hin : i = n := by
        rcases Nat.lt_or_ge i n with h' | h'
        · exact absurd ⟨i, h', hf⟩ e
        · omega
      subst hin
      refine ⟨i, by omega, hf, fun j hj => ?_⟩
      cases hfj : f j with
      | true => rfl
      | false => exact absurd ⟨j, hj, hfj⟩ e

theorem head_ready {n : Nat} (hB : headB md ops n = true) (hn : n ≤ ops.size) {l : Array Bool} (hl : l.size = ops.size) (h : ∃ i, i < n ∧ l.getD i true = false) : ∃ i, i < n ∧ i ∈ Region.ready md ops l := by
  obtain ⟨i, h1, h2, h3⟩ := least (f := fun i => l.getD i true) n h
  refine ⟨i, h1, mem_ready.2 ⟨h2, ops[i]'(by omega), Array.getElem?_eq_getElem _, fun e he hb => ?_⟩⟩
  have := List.all_eq_true.1 hB i (List.mem_range.2 h1)
  simp only [Array.getElem?_eq_getElem (show i < ops.size by omega)] at this
  have := Array.all_eq_true_iff_forall_mem.1 this e he
  simp only [hb, Bool.not_true, Bool.false_or, decide_eq_true_eq] at this
  rw [getD_eq_in (by omega)]
  exact h3 _ this

theorem wpAny_of_head2 {n g : Nat} {R : Act → Prop} {Q' : Exit → Act → World → Prop} (hN : ops.size = n + g) (hg : 0 < g) (hB : headB md ops n = true) (hsk : Region.sinkB md ops n = true) (hch : Region.chainB md ops n = true) (hR : ∀ a w, C w → R a → wpAny P md ops Q' g (headListed n g) a w) :
    ∀ (fuel : Nat) (real mark : Array Bool) (a : Act) (w : World), Two md ops n ops.size real mark → C w → wpAnyQ P md ops C R fuel mark a → wpAny P md ops Q' (fuel + g) real a w := by
  have alldone : ∀ (real mark : Array Bool), Two md ops n ops.size real mark → Region.ready md ops mark = [] → real = headListed n g := by
    intro real mark T hr
    refine Array.ext (by simp [headListed, T.rs, hN]) (fun j h1 h2 => ?_)
    have hsz : j < n + g := by rw [T.rs, hN] at h1; exact h1
    by_cases hj : j < n
    · have hm : mark.getD j true = true := by
        cases hm : mark.getD j true with
        | true => rfl
        | false =>
          obtain ⟨i, _, hi⟩ := head_ready hB (by omega) T.ms ⟨j, hj, hm⟩
          rw [hr] at hi; cases hi
      have := (T.same j hj).trans hm
      simp only [headListed]
      rw [Array.getElem_append_left (by simpa using hj)]
      simpa [h1] using this
    · have := T.off j (by omega) (by rw [T.rs] at h1; exact h1)
      simp only [headListed]
      rw [Array.getElem_append_right (by simpa using hj)]
      simpa [h1] using this
  intro fuel
  induction fuel with
  | zero =>
    intro real mark a w T hC h
    rw [Nat.zero_add, alldone real mark T h.1]
    exact hR _ _ hC h.2
  | succ fuel ih =>
    intro real mark a w T hC h
    by_cases hr : Region.ready md ops mark = []
    · rw [alldone real mark T hr]
      exact wpAny_add (hR _ _ hC (h.1 hr)) _
    · obtain ⟨i0, hi0⟩ : ∃ i, i ∈ Region.ready md ops mark := by
        cases hx : Region.ready md ops mark with
        | nil => exact absurd hx hr
        | cons x xs => exact ⟨x, by simp⟩
      have hi0n : i0 < n := by
        rcases Nat.lt_or_ge i0 n with h' | h'
        · exact h'
        · obtain ⟨hu, o, ho, _⟩ := mem_ready.1 hi0
          have := T.on i0 h' (Array.getElem?_eq_some_iff.1 ho).1
          rw [hu] at this; cases this
      have hun : real.getD i0 true = false := (T.same i0 hi0n).trans (mem_ready.1 hi0).1
      have hrr := head_ready hB (by omega) T.rs ⟨i0, hi0n, hun⟩
      rw [Nat.succ_add]
      refine ⟨fun h0 => ?_, fun i hi => ?_⟩
      · obtain ⟨_, _, hx⟩ := hrr
        rw [h0] at hx; cases hx
      · obtain ⟨hiu, o, ho, hall⟩ := mem_ready.1 hi
        have hisz := (Array.getElem?_eq_some_iff.1 ho).1
        have hin : i < n := by
          rcases Nat.lt_or_ge i n with h' | h'
          · exact h'
          · exact absurd hi (tail_waits hsk hch (by omega) T.inv _ i0 rfl hi0n hun i h')
        have him : i ∈ Region.ready md ops mark := by
          refine mem_ready.2 ⟨(T.same i hin).symm.trans hiu, o, ho, fun e he hb => ?_⟩
          have h1 := List.all_eq_true.1 hB i (List.mem_range.2 hin)
          rw [ho] at h1
          have h2 := Array.all_eq_true_iff_forall_mem.1 h1 e he
          simp only [hb, Bool.not_true, Bool.false_or, decide_eq_true_eq] at h2
          have h3 := hall e he hb
          rw [getD_eq_in (by rw [T.rs, hN]; omega)] at h3
          rw [getD_eq_in (by rw [T.ms, hN]; omega), ← T.same e.on (by omega)]
          exact h3
        refine wpOp_of_qOp hC (fun a' w' hC' h' => ih _ _ a' w' ?_ hC' h') (h.2 i him)
        refine ⟨T.inv.set hi hin, by simp [T.rs], by simp [T.ms], fun j hj => ?_, fun t h1 h2 => ?_, fun t h1 h2 => ?_⟩
        · by_cases hji : i = j
          · subst hji; simp [T.rs, T.ms, hisz]
          · rw [getD_set_ne true hji, getD_set_ne true hji]; exact T.same j hj
        · rw [getD_set_ne true (by omega)]; exact T.off t h1 h2
        · rw [getD_set_ne true (by omega)]; exact T.on t h1 h2

/-- ALL AHEAD BUT A TAIL OF g OPERATIONS IS QUIET IN THE CLASS: one walk in the order of the text; then the tail, in whatever order. -/
theorem wp_region_tail {id : Nat} {Q : Exit → Act → World → Prop} {a : Act} {w : World} {l : List Oper} (n : Nat) (hm : P.follows .mixedOrders = true) (hs : Region.noSelect l.toArray = true) (hn : n < l.length)
    (hB : headB .any l.toArray n = true) (hsk : Region.sinkB .any l.toArray n = true) (hch : Region.chainB .any l.toArray n = true) (hL : Region.lexFrom .any l.toArray n 0 (tailListed n (l.length - n)) = true) (hC : C { w with drawn := w.drawn + 1 })
    (h : wpQuiet P l.toArray C (fun a' => ∀ w', C w' → wpAny P .any l.toArray Q (l.length - n) (headListed n (l.length - n)) a' w') (l.take n) a) : (Code.region id l.toArray true).wp P Q a w := by
  have hlen : (l.take n).length = n := by simp; omega
  have H := quiet_lex (P := P) (md := .any) (C := C) hs (l.take n) 0 (tailListed n (l.length - n)) a (fun j hj => by rw [hlen] at hj; simp [hj]) (by rw [hlen]; exact hL) h
  rw [hlen] at H
  refine wp_region_any hm ?_
  have hT : Two .any l.toArray n l.toArray.size (Array.replicate l.toArray.size false) (tailListed n (l.length - n)) :=
    ⟨⟨by simp, fun j oj _ hl => (by rw [getD_replicate_false] at hl; cases hl), fun t _ ht => getD_in (by simpa using ht) (getD_replicate_false _ _)⟩, by simp, by simp [tailListed]; omega, fun j hj => by simp [tailListed, hj, Array.getElem?_append, show j < l.length by omega], fun t h1 h2 => by simp at h2; simp [h2], fun t h1 h2 => by
      simp at h2
      simp [tailListed, Array.getElem?_append, show ¬ t < n by omega, show t - n < l.length - n by omega]⟩
  have := wpAny_of_head2 (P := P) (Q' := Q) (g := l.length - n) (by simp; omega) (by omega) hB hsk hch (fun a w hC h => h w hC) n _ _ a _ hT hC H
  rwa [show n + (l.length - n) = l.toArray.size by simp; omega] at this
theorem wpOp_of_list {Q : Exit → Act → World → Prop} {i : Nat} {o : Oper} {r : List Oper} {K : Act → World → Prop} {a : Act} {w : World} (h0 : ops[i]? = some o) (hK : ∀ a w, wpList P ops Q r a w → K a w) (h : wpList P ops Q (o :: r) a w) : wpOp P ops Q i K a w := by
  refine wpOp_mono hK ?_
  unfold wpOp; simp only [h0]; exact h
/-- The tail in the one order that it has. -/
theorem tail_seq {Q : Exit → Act → World → Prop} {l : List Oper} {a : Act} {w : World} (n : Nat) (hB : Region.seqB md l.toArray (l.length - n) n (headListed n (l.length - n)) = true) (h : wpList P l.toArray Q (l.drop n) a w) : wpAny P md l.toArray Q (l.length - n) (headListed n (l.length - n)) a w := by
  have := wpAny_of_seq (P := P) (md := md) (ops := l.toArray) (Q' := Q) (l.drop n) n (headListed n (l.length - n)) a w (fun j => by simp [List.getElem?_drop]) (by simpa using hB) h
  simpa using this
end

/-- A world that is W but for new blocks. -/
structure Later (W : World) where
  w : World
  h : Below W.heap.size W w
instance (W : World) : Nonempty (Later W) := ⟨⟨W, Below.refl _ _⟩⟩
theorem Later.cell? {W : World} (t : Later W) (b o : Nat) (h : b < W.heap.size) : t.w.cell? ⟨b, o, none⟩ = W.cell? ⟨b, o, none⟩ := t.h.cell (p := ⟨b, o, none⟩) h
theorem Later.frozen? {W : World} (t : Later W) (b o : Nat) (h : b < W.heap.size) : t.w.frozen? ⟨b, o, none⟩ = W.frozen? ⟨b, o, none⟩ := t.h.frozen (p := ⟨b, o, none⟩) h
theorem Later.size {W : World} (t : Later W) : W.heap.size ≤ t.w.heap.size := t.h.size
def IsLater (W w' : World) : Prop := ∃ t : Later W, w' = t.w
theorem IsLater.drew (W : World) : ∃ t : Later W, { W with drawn := W.drawn + 1 } = t.w := ⟨⟨_, (Below.refl _ _).drew⟩, rfl⟩
theorem later_of {P : Program} {f : FuncId} {args : Array Value} {W : World} {t : Later W} {v : Value} (h : Calls P f args t.w fun e w' => e = .returned v ∧ Below t.w.heap.size t.w w') :
    Calls P f args t.w fun e w'' => e = .returned v ∧ ∃ t' : Later W, w'' = t'.w :=
  h.mono fun _ w' ⟨he, hb⟩ => ⟨he, ⟨w', t.h.trans (hb.mono t.h.size)⟩, rfl⟩
theorem later_same {P : Program} {f : FuncId} {args : Array Value} {W : World} {t : Later W} {v : Value} (h : Calls P f args t.w fun e w' => e = .returned v ∧ t.w = w') :
    Calls P f args t.w fun e w'' => e = .returned v ∧ ∃ t' : Later W, w'' = t'.w :=
  h.mono fun _ _ ⟨he, hb⟩ => ⟨he, t, hb.symm⟩
end Go.Proofs.Ytkkimlicabbooaa

/-
  Rows of plain structures (boxes, points, facts) as they lie in memory; the reader's methods, bare and fails of package search.
-/
namespace Go.Proofs.Ytkkimlicabbooaa
open Go.RowKit Go.Proofs.YtkkimlicabbooaaW.PrintWords Bs
attribute [local go_sem] Later.cell? Later.frozen?
set_option linter.unusedVariables false
set_option linter.unusedSimpArgs false

/-- A structure of n cells, none of which leads to memory. -/
def flat {α : Type} (n : Nat) (enc : α → List Value) (hl : ∀ x, (enc x).length = n) (h1 : ∀ x, ∀ u ∈ enc x, u.oneCell' = true) : Kd α where
  sz := n
  E := []
  K := fun _ x cs => cs = enc x
  M := fun _ _ _ x cs => cs = enc x
  K_len := fun h => by rw [h]; exact hl _
  K_one := fun h u hu => by rw [h] at hu; exact h1 _ u hu
  K_below := fun _ h => h
  K_of_M := fun h => h
  M_mono := fun _ h => h
  M_bound := fun h => h
  M_move := fun _ h => h
  M_lower := fun _ h => h

def encBx (b : Bx) : List Value := [.int .i64 b.x.lo, .int .i64 b.x.hi, .int .i64 b.y.lo, .int .i64 b.y.hi]
def encPt (p : Pt) : List Value := [.int .i64 p.x, .int .i64 p.y]
def encFct (f : Fct) : List Value := [.int .i64 f.id, .int .i64 f.kind, .bool f.no, .int .i64 f.a, .int .i64 f.b, .int .i64 f.c, .int .i64 f.span.lo, .int .i64 f.span.hi, .int .i64 f.quarter]
def kBx : Kd Bx := flat 4 encBx (fun _ => rfl) (by intro x u hu; simp [encBx] at hu; rcases hu with rfl | rfl | rfl | rfl <;> rfl)
def kPt : Kd Pt := flat 2 encPt (fun _ => rfl) (by intro x u hu; simp [encPt] at hu; rcases hu with rfl | rfl <;> rfl)
def kFct : Kd Fct := flat 9 encFct (fun _ => rfl) (by intro x u hu; simp [encFct] at hu; rcases hu with rfl | rfl | rfl | rfl | rfl | rfl | rfl | rfl | rfl <;> rfl)
abbrev kInt : Kd Int := Kd.int .i64

theorem rd_some {α : Type} {l : List α} {i : Nat} {z : α} (h : i < l.length) : l[i]? = some (l.getD i z) := by
  rw [List.getD_eq_getElem?_getD, List.getElem?_eq_getElem h]; rfl
theorem row_at {α : Type} {d : Kd α} (hsz : 0 < d.sz) {w : World} {A : Option Addr} {n : Nat} {xs : List α} (h : d.C w A n xs) (hn : 0 < n) :
    ∃ b off, A = some ⟨b, off, none⟩ ∧ b < w.heap.size ∧ ∀ j p, xs[j]? = some p → ∃ c, c.length = d.sz ∧ d.K w p c ∧ ∀ i u, c[i]? = some u → w.cell? ⟨b, off + j * d.sz + i, none⟩ = some u := by
  obtain ⟨hl, _, hr⟩ := h
  obtain ⟨ad, rfl, hc⟩ := hr hn
  obtain ⟨c, hcl, _, hcc⟩ := hc 0 (xs[0]'(by omega)) (List.getElem?_eq_getElem _)
  have h0 := hcc 0 (c[0]'(by omega)) (List.getElem?_eq_getElem _)
  obtain ⟨b, off, spot⟩ := ad
  have hs : spot = none := by simpa [Addr.add] using World.cell?_spot h0
  subst hs
  have hlt := World.block_lt_of_cell? _ _ h0
  refine ⟨b, off, rfl, by simpa [Addr.add] using hlt, fun j p hj => ?_⟩
  obtain ⟨c', h1, h2, h3⟩ := hc j p hj
  refine ⟨c', h1, h2, fun i u hu => ?_⟩
  have := h3 i u hu
  rw [Go.WideShapes.add_plain] at this
  rwa [Nat.add_assoc]
theorem at_Bx {w : World} {A : Option Addr} {n : Nat} {xs : List Bx} (h : kBx.C w A n xs) (i : Int) (h0 : 0 ≤ i) (h1 : i < n) : ∃ b off, A = some ⟨b, off, none⟩ ∧ b < w.heap.size ∧ w.cell? ⟨b, off + i.toNat * 4, none⟩ = some (.int .i64 (rBx xs i).x.lo) ∧ w.cell? ⟨b, off + i.toNat * 4 + 1, none⟩ = some (.int .i64 (rBx xs i).x.hi) ∧ w.cell? ⟨b, off + i.toNat * 4 + 2, none⟩ = some (.int .i64 (rBx xs i).y.lo) ∧ w.cell? ⟨b, off + i.toNat * 4 + 3, none⟩ = some (.int .i64 (rBx xs i).y.hi) := by
  obtain ⟨b, off, e, hb, hr⟩ := row_at (d := kBx) (by decide) h (by omega)
  obtain ⟨c, _, hK, hc⟩ := hr i.toNat (rBx xs i) (rd_some (by have := h.1; omega))
  obtain rfl := (show c = encBx (rBx xs i) from hK)
  exact ⟨b, off, e, hb, hc 0 _ rfl, hc 1 _ rfl, hc 2 _ rfl, hc 3 _ rfl⟩
theorem at_Pt {w : World} {A : Option Addr} {n : Nat} {xs : List Pt} (h : kPt.C w A n xs) (i : Int) (h0 : 0 ≤ i) (h1 : i < n) : ∃ b off, A = some ⟨b, off, none⟩ ∧ b < w.heap.size ∧ w.cell? ⟨b, off + i.toNat * 2, none⟩ = some (.int .i64 (rPt xs i).x) ∧ w.cell? ⟨b, off + i.toNat * 2 + 1, none⟩ = some (.int .i64 (rPt xs i).y) := by
  obtain ⟨b, off, e, hb, hr⟩ := row_at (d := kPt) (by decide) h (by omega)
  obtain ⟨c, _, hK, hc⟩ := hr i.toNat (rPt xs i) (rd_some (by have := h.1; omega))
  obtain rfl := (show c = encPt (rPt xs i) from hK)
  exact ⟨b, off, e, hb, hc 0 _ rfl, hc 1 _ rfl⟩
theorem at_Fct {w : World} {A : Option Addr} {n : Nat} {xs : List Fct} (h : kFct.C w A n xs) (i : Int) (h0 : 0 ≤ i) (h1 : i < n) : ∃ b off, A = some ⟨b, off, none⟩ ∧ b < w.heap.size ∧ w.cell? ⟨b, off + i.toNat * 9, none⟩ = some (.int .i64 (rFct xs i).id) ∧ w.cell? ⟨b, off + i.toNat * 9 + 1, none⟩ = some (.int .i64 (rFct xs i).kind) ∧ w.cell? ⟨b, off + i.toNat * 9 + 2, none⟩ = some (.bool (rFct xs i).no) ∧ w.cell? ⟨b, off + i.toNat * 9 + 3, none⟩ = some (.int .i64 (rFct xs i).a) ∧ w.cell? ⟨b, off + i.toNat * 9 + 4, none⟩ = some (.int .i64 (rFct xs i).b) ∧ w.cell? ⟨b, off + i.toNat * 9 + 5, none⟩ = some (.int .i64 (rFct xs i).c) ∧ w.cell? ⟨b, off + i.toNat * 9 + 6, none⟩ = some (.int .i64 (rFct xs i).span.lo) ∧ w.cell? ⟨b, off + i.toNat * 9 + 7, none⟩ = some (.int .i64 (rFct xs i).span.hi) ∧ w.cell? ⟨b, off + i.toNat * 9 + 8, none⟩ = some (.int .i64 (rFct xs i).quarter) := by
  obtain ⟨b, off, e, hb, hr⟩ := row_at (d := kFct) (by decide) h (by omega)
  obtain ⟨c, _, hK, hc⟩ := hr i.toNat (rFct xs i) (rd_some (by have := h.1; omega))
  obtain rfl := (show c = encFct (rFct xs i) from hK)
  exact ⟨b, off, e, hb, hc 0 _ rfl, hc 1 _ rfl, hc 2 _ rfl, hc 3 _ rfl, hc 4 _ rfl, hc 5 _ rfl, hc 6 _ rfl, hc 7 _ rfl, hc 8 _ rfl⟩

section
variable {p : Nat → Prop} {w1 w2 : World} (W : World)
theorem SB_refl (p : Nat → Prop) : (∀ b o, b < W.heap.size → p b → W.cell? ⟨b, o, none⟩ = W.cell? ⟨b, o, none⟩) ∧ W.heap.size ≤ W.heap.size := ⟨fun _ _ _ _ => rfl, Nat.le_refl _⟩
variable {W}
theorem SB_below (h : (∀ b o, b < W.heap.size → p b → w1.cell? ⟨b, o, none⟩ = W.cell? ⟨b, o, none⟩) ∧ W.heap.size ≤ w1.heap.size) (hb : Below w1.heap.size w1 w2) : (∀ b o, b < W.heap.size → p b → w2.cell? ⟨b, o, none⟩ = W.cell? ⟨b, o, none⟩) ∧ W.heap.size ≤ w2.heap.size :=
  ⟨fun b o hl hp => (hb.cell (p := ⟨b, o, none⟩) (Nat.lt_of_lt_of_le hl h.2)).trans (h.1 b o hl hp), Nat.le_trans h.2 hb.size⟩
theorem SB_drew (h : (∀ b o, b < W.heap.size → p b → w1.cell? ⟨b, o, none⟩ = W.cell? ⟨b, o, none⟩) ∧ W.heap.size ≤ w1.heap.size) : (∀ b o, b < W.heap.size → p b → w1.drew.cell? ⟨b, o, none⟩ = W.cell? ⟨b, o, none⟩) ∧ W.heap.size ≤ w1.drew.heap.size := h
theorem SB_alloc {x : Obj} (h : (∀ b o, b < W.heap.size → p b → w1.cell? ⟨b, o, none⟩ = W.cell? ⟨b, o, none⟩) ∧ W.heap.size ≤ w1.heap.size) : (∀ b o, b < W.heap.size → p b → (w1.alloc x).cell? ⟨b, o, none⟩ = W.cell? ⟨b, o, none⟩) ∧ W.heap.size ≤ (w1.alloc x).heap.size := SB_below h ((Below.refl _ _).alloc (Nat.le_refl _) _)
theorem SB_set {a : Addr} (h : (∀ b o, b < W.heap.size → p b → w1.cell? ⟨b, o, none⟩ = W.cell? ⟨b, o, none⟩) ∧ W.heap.size ≤ w1.heap.size) (ha : ¬ p a.block) (u : Value) : (∀ b o, b < W.heap.size → p b → (w1.setCell a u).cell? ⟨b, o, none⟩ = W.cell? ⟨b, o, none⟩) ∧ W.heap.size ≤ (w1.setCell a u).heap.size :=
  ⟨fun b o hl hp => (World.cell?_of_block (Below.heap_setCell w1 a u b (fun e => ha (e ▸ hp)))).trans (h.1 b o hl hp), by simpa using h.2⟩
theorem SB_new {a : Addr} (h : (∀ b o, b < W.heap.size → p b → w1.cell? ⟨b, o, none⟩ = W.cell? ⟨b, o, none⟩) ∧ W.heap.size ≤ w1.heap.size) (ha : W.heap.size ≤ a.block) (u : Value) : (∀ b o, b < W.heap.size → p b → (w1.setCell a u).cell? ⟨b, o, none⟩ = W.cell? ⟨b, o, none⟩) ∧ W.heap.size ≤ (w1.setCell a u).heap.size :=
  ⟨fun b o hl hp => (World.cell?_of_block (Below.heap_setCell w1 a u b (by omega))).trans (h.1 b o hl hp), by simpa using h.2⟩
end
theorem S_of_below {W w' : World} (h : Below W.heap.size W w') : (∀ b o, b < W.heap.size → w'.cell? ⟨b, o, none⟩ = W.cell? ⟨b, o, none⟩) ∧ (∀ b o, b < W.heap.size → w'.frozen? ⟨b, o, none⟩ = W.frozen? ⟨b, o, none⟩) ∧ Below W.heap.size W w' :=
  ⟨fun b o hb => h.cell (p := ⟨b, o, none⟩) hb, fun b o hb => h.frozen (p := ⟨b, o, none⟩) hb, h⟩

/-- Block x is the call's own: it holds these cells, and may be written. -/
def Blk (W : World) (x : Nat) (cs : List Value) : Prop := x < W.heap.size ∧ (∀ i u, cs[i]? = some u → W.cell? ⟨x, i, none⟩ = some u) ∧ ∀ i, W.frozen? ⟨x, i, none⟩ = false
def VecMid (w W W1 : World) (a b : Bx) (p q : Value) : Prop :=
  ∃ x y, p = .pointer (some ⟨x, 0, none⟩) ∧ q = .pointer (some ⟨y, 0, none⟩) ∧ Blk W1 x (encBx a) ∧ Blk W1 y (encBx b) ∧ W.heap.size ≤ x ∧ W.heap.size ≤ y ∧ Below W.heap.size W W1

set_option maxHeartbeats 800000 in
theorem vector_c (f : Fct) (A : Option Addr) (n c : Nat) (bs : List Bx) (w : World) (h : kBx.C w A n bs) (ha : 0 ≤ f.a ∧ f.a < n) (hb : 0 ≤ f.b ∧ f.b < n) (hn : n ≤ 9223372036854775807)
    (ba : validB (rBx bs f.a) = true) (bb : validB (rBx bs f.b) = true) :
    Calls Try.prog 103 #[.agg #[.int .i64 f.id, .int .i64 f.kind, .bool f.no, .int .i64 f.a, .int .i64 f.b, .int .i64 f.c, .int .i64 f.span.lo, .int .i64 f.span.hi, .int .i64 f.quarter, .slice A n c]] w fun e w' => e = .returned (.tuple #[.agg #[.int .i64 (vecX f bs).lo, .int .i64 (vecX f bs).hi], .agg #[.int .i64 (vecY f bs).lo, .int .i64 (vecY f bs).hi]]) ∧ Below w.heap.size w w' := by
  obtain ⟨bk, off, rfl, hbk, a0, a1, a2, a3⟩ := at_Bx h f.a ha.1 ha.2
  obtain ⟨_, _, he, _, b0, b1, b2, b3⟩ := at_Bx h f.b hb.1 hb.2
  cases he
  clear h
  have hk1 : bk < w.heap.size + 1 := by omega
  have hk2 : bk < w.heap.size + 1 + 1 := by omega
  have hk3 : bk < w.heap.size + 1 + 1 + 1 := by omega
  have hk4 : bk < w.heap.size + 1 + 1 + 1 + 1 := by omega
  go_enter Try.func103, Try.ntmps103
  go_wp2_with fail
  generalize hW : ((w.alloc _).alloc _).alloc _ = W
  have hbW : Below w.heap.size w W := by subst hW; exact (by repeat (first | (with_reducible exact Below.refl _ _) | (with_reducible exact HB.out) | (with_reducible apply below_alloc) | (with_reducible apply below_drew) | (with_reducible apply pw_below_drewN) | (with_reducible refine bstep' ?_ (by assumption)) | ((with_reducible refine Below.setCell ?_ ?_ _); rotate_left; (first | (dsimp only; omega) | (simp; done) | (simp; omega) | omega))))
  have hzW : W.heap.size = w.heap.size + 1 + 1 + 1 := by subst hW; simp
  have e0 : W.cell? ⟨w.heap.size, 3, none⟩ = some (.int .i64 f.a) := by subst hW; go_simp
  have e1 : W.cell? ⟨w.heap.size, 4, none⟩ = some (.int .i64 f.b) := by subst hW; go_simp
  have e2 : W.cell? ⟨w.heap.size, 9, none⟩ = some (.slice (some ⟨bk, off, none⟩) n c) := by subst hW; go_simp
  have r0 : W.cell? ⟨w.heap.size + 1, 0, none⟩ = some (.int .i64 0) := by subst hW; go_simp
  have r1 : W.cell? ⟨w.heap.size + 1, 1, none⟩ = some (.int .i64 0) := by subst hW; go_simp
  have r2 : W.cell? ⟨w.heap.size + 1 + 1, 0, none⟩ = some (.int .i64 0) := by subst hW; go_simp
  have r3 : W.cell? ⟨w.heap.size + 1 + 1, 1, none⟩ = some (.int .i64 0) := by subst hW; go_simp
  have r4 : ∀ k, W.frozen? ⟨w.heap.size + 1, k, none⟩ = false := by intro k; subst hW; go_simp
  have r5 : ∀ k, W.frozen? ⟨w.heap.size + 1 + 1, k, none⟩ = false := by intro k; subst hW; go_simp
  rw [← hbW.cell (by exact hbk)] at a0 a1 a2 a3 b0 b1 b2 b3
  have q0 : w.heap.size < W.heap.size := by omega
  have q1 : bk < W.heap.size := by omega
  have q2 : w.heap.size + 1 < W.heap.size := by omega
  have q3 : w.heap.size + 1 + 1 < W.heap.size := by omega
  clear hW hk1 hk2 hk3 hk4 hzW
  go_cut [4, 5] (fun p q W1 => VecMid w W W1 (rBx bs f.a) (rBx bs f.b) p q)
  case first =>
    go_region_held3 (fun w' => (∀ b o, b < W.heap.size → w'.cell? ⟨b, o, none⟩ = W.cell? ⟨b, o, none⟩) ∧ (∀ b o, b < W.heap.size → w'.frozen? ⟨b, o, none⟩ = W.frozen? ⟨b, o, none⟩) ∧ Below W.heap.size W w') (first | (go_split_ands; exact S_of_below (by repeat (first | (with_reducible exact Below.refl _ _) | (with_reducible exact HB.out) | (with_reducible assumption) | (with_reducible apply below_alloc) | (with_reducible apply below_drew) | (with_reducible apply pw_below_drewN) | (with_reducible refine bstep' ?_ (by assumption)) | ((with_reducible refine Below.setCell ?_ ?_ _); rotate_left; (first | (dsimp only; omega) | (simp; done) | (simp; omega) | omega)))))) ((first | fail))
    all_goals (go_wp2_with fail)
    all_goals go_meet
    all_goals (case rel => show VecMid _ _ _ _ _ _ _; exact ⟨_, _, rfl, rfl, ⟨(by first | (simp; done) | (simp; omega) | omega), by intro i u hu; rcases i with _ | _ | _ | _ |i <;> simp [encBx] at hu <;> subst hu <;> go_simp, by intro i; go_simp⟩, ⟨(by first | (simp; done) | (simp; omega) | omega), by intro i u hu; rcases i with _ | _ | _ | _ |i <;> simp [encBx] at hu <;> subst hu <;> go_simp, by intro i; go_simp⟩, (by first | (simp; done) | (simp; omega) | omega), (by first | (simp; done) | (simp; omega) | omega), (by repeat (first | (with_reducible exact Below.refl _ _) | (with_reducible exact HB.out) | (with_reducible assumption) | (with_reducible apply below_alloc) | (with_reducible apply below_drew) | (with_reducible apply pw_below_drewN) | (with_reducible refine bstep' ?_ (by assumption)) | ((with_reducible refine Below.setCell ?_ ?_ _); rotate_left; (first | (dsimp only; omega) | (simp; done) | (simp; omega) | omega))))⟩)
  case rest =>
    obtain ⟨x, y, rfl, rfl, ⟨hx1, hx2, hx3⟩, ⟨hy1, hy2, hy3⟩, hx4, hy4, hbc⟩ := hcut
    have x0 := hx2 0 _ rfl
    have x1 := hx2 1 _ rfl
    have x2 := hx2 2 _ rfl
    have x3 := hx2 3 _ rfl
    have y0 := hy2 0 _ rfl
    have y1 := hy2 1 _ rfl
    have y2 := hy2 2 _ rfl
    have y3 := hy2 3 _ rfl
    obtain ⟨va1, va2, va3, va4, va5, va6, va7, va8⟩ := valid_bd ba
    obtain ⟨vb1, vb2, vb3, vb4, vb5, vb6, vb7, vb8⟩ := valid_bd bb
    rw [← hbc.cell (by exact q2)] at r0 r1
    rw [← hbc.cell (by exact q3)] at r2 r3
    have r4' : ∀ k, wc.frozen? ⟨w.heap.size + 1, k, none⟩ = false := fun k => (hbc.frozen (by exact q2)).trans (r4 k)
    have r5' : ∀ k, wc.frozen? ⟨w.heap.size + 1 + 1, k, none⟩ = false := fun k => (hbc.frozen (by exact q3)).trans (r5 k)
    have hbw := hbW.trans (hbc.mono hbW.size)
    have z1 : x ≠ w.heap.size + 1 := by omega
    have z2 : x ≠ w.heap.size + 1 + 1 := by omega
    have z3 : y ≠ w.heap.size + 1 := by omega
    have z4 : y ≠ w.heap.size + 1 + 1 := by omega
    have z5 : w.heap.size + 1 < wc.heap.size := by have := hbc.size; omega
    have z6 : w.heap.size + 1 + 1 < wc.heap.size := by have := hbc.size; omega
    clear r4 r5 hx2 hy2 hx3 hy3 q1 a0 a1 a2 a3 b0 b1 b2 b3 e0 e1 e2 hbc hbW
    go_wp2_with fail
    (refine wp_region_tail (C := fun w' => ∃ t : Later _, w' = t.w) 10 (by kernel_rfl) (by kernel_rfl) (by decide) (by kernel_rfl) (by kernel_rfl) (by kernel_rfl) (by kernel_rfl) (IsLater.drew _) ?_; simp only [List.take_succ_cons, List.take_zero]; (repeat (first | go_big_quiet_step ((go_at_call 109; exact later_of (less_c _ _ _ _ _ (by omega) (by omega) (by omega) (by omega)))) | quiet_step ((go_at_call 109; exact later_of (less_c _ _ _ _ _ (by omega) (by omega) (by omega) (by omega)))))); refine wpQuiet_nil ?_; rintro _ ⟨tq, rfl⟩; refine tail_seq 10 (by kernel_rfl) ?_; simp only [List.drop_succ_cons, List.drop_zero])
    have hq := tq.h
    all_goals go_wp2
    all_goals exact bodyPost_ret (v := .tuple #[.agg #[.int .i64 ((rBx bs f.b).x.lo - (rBx bs f.a).x.hi), .int .i64 ((rBx bs f.b).x.hi - (rBx bs f.a).x.lo)], .agg #[.int .i64 ((rBx bs f.b).y.lo - (rBx bs f.a).y.hi), .int .i64 ((rBx bs f.b).y.hi - (rBx bs f.a).y.lo)]]) (by simp [results, Try.results103, go_sem, *]) rfl ⟨rfl, (by repeat (first | (with_reducible exact Below.refl _ _) | (with_reducible exact HB.out) | (with_reducible assumption) | (with_reducible apply below_alloc) | (with_reducible apply below_drew) | (with_reducible apply pw_below_drewN) | (with_reducible refine bstep' ?_ (by assumption)) | ((with_reducible refine Below.setCell ?_ ?_ _); rotate_left; (first | (dsimp only; omega) | (simp; done) | (simp; omega) | omega))))⟩

end Go.Proofs.Ytkkimlicabbooaa

/-
  The reader's methods east, north, dist, near and quarter of package search.
-/
namespace Go.Proofs.Ytkkimlicabbooaa
open Go.RowKit Go.Proofs.YtkkimlicabbooaaW.PrintWords Bs
attribute [local go_sem] Later.cell? Later.frozen?
set_option linter.unusedVariables false
set_option linter.unusedSimpArgs false

set_option maxHeartbeats 800000 in
theorem east_c (f : Fct) (A : Option Addr) (n c : Nat) (bs : List Bx) (w : World) (h : kBx.C w A n bs) (ha : 0 ≤ f.a ∧ f.a < n) (hb : 0 ≤ f.b ∧ f.b < n) (ba : validB (rBx bs f.a) = true) (bb : validB (rBx bs f.b) = true) :
    Calls Try.prog 94 #[.agg #[.int .i64 f.id, .int .i64 f.kind, .bool f.no, .int .i64 f.a, .int .i64 f.b, .int .i64 f.c, .int .i64 f.span.lo, .int .i64 f.span.hi, .int .i64 f.quarter, .slice A n c]] w fun e w' => e = .returned (.tuple #[.bool (canV f (vecX f bs).lo (vecX f bs).hi), .bool (mustV f (vecX f bs).lo (vecX f bs).hi)]) ∧ Below w.heap.size w w' := by
  have HV := Aside0.mk h
  have hn : n ≤ 9223372036854775807 := h.2.1
  clear h
  go_enter Try.func94, Try.ntmps94
  go_wp2_with (first | (go_at_call 103; refine (vector_c f _ _ _ bs _ (Kd.C_below HV.out (by repeat (first | (with_reducible exact Below.refl _ _) | (with_reducible exact HB.out) | (with_reducible apply below_alloc) | (with_reducible apply below_drew) | (with_reducible apply pw_below_drewN) | (with_reducible refine bstep' ?_ (by assumption)) | ((with_reducible refine Below.setCell ?_ ?_ _); rotate_left; (first | (dsimp only; omega) | (simp; done) | (simp; omega) | omega))))) ha hb hn ba bb).mono ?_; rintro e w1 ⟨rfl, hb1⟩; obtain ⟨hc1, hf1, hz1⟩ := bcell hb1; try simp only [World.size_alloc, World.size_setCell] at hz1; have hl1 : w.heap.size < w1.heap.size := by omega) | (go_at_call 105; refine (valued_c f _ _ _ _).mono ?_; rintro e w2 ⟨rfl, hb2⟩))

  go_ret2
  exact ⟨rfl, (by repeat (first | (with_reducible exact Below.refl _ _) | (with_reducible exact HB.out) | (with_reducible apply below_alloc) | (with_reducible apply below_drew) | (with_reducible apply pw_below_drewN) | (with_reducible refine bstep' ?_ (by assumption)) | ((with_reducible refine Below.setCell ?_ ?_ _); rotate_left; (first | (dsimp only; omega) | (simp; done) | (simp; omega) | omega))))⟩

set_option maxHeartbeats 800000 in
theorem north_c (f : Fct) (A : Option Addr) (n c : Nat) (bs : List Bx) (w : World) (h : kBx.C w A n bs) (ha : 0 ≤ f.a ∧ f.a < n) (hb : 0 ≤ f.b ∧ f.b < n) (ba : validB (rBx bs f.a) = true) (bb : validB (rBx bs f.b) = true) :
    Calls Try.prog 95 #[.agg #[.int .i64 f.id, .int .i64 f.kind, .bool f.no, .int .i64 f.a, .int .i64 f.b, .int .i64 f.c, .int .i64 f.span.lo, .int .i64 f.span.hi, .int .i64 f.quarter, .slice A n c]] w fun e w' => e = .returned (.tuple #[.bool (canV f (vecY f bs).lo (vecY f bs).hi), .bool (mustV f (vecY f bs).lo (vecY f bs).hi)]) ∧ Below w.heap.size w w' := by
  have HV := Aside0.mk h
  have hn : n ≤ 9223372036854775807 := h.2.1
  clear h
  go_enter Try.func95, Try.ntmps95
  go_wp2_with (first | (go_at_call 103; refine (vector_c f _ _ _ bs _ (Kd.C_below HV.out (by repeat (first | (with_reducible exact Below.refl _ _) | (with_reducible exact HB.out) | (with_reducible apply below_alloc) | (with_reducible apply below_drew) | (with_reducible apply pw_below_drewN) | (with_reducible refine bstep' ?_ (by assumption)) | ((with_reducible refine Below.setCell ?_ ?_ _); rotate_left; (first | (dsimp only; omega) | (simp; done) | (simp; omega) | omega))))) ha hb hn ba bb).mono ?_; rintro e w1 ⟨rfl, hb1⟩; obtain ⟨hc1, hf1, hz1⟩ := bcell hb1; try simp only [World.size_alloc, World.size_setCell] at hz1; have hl1 : w.heap.size < w1.heap.size := by omega) | (go_at_call 105; refine (valued_c f _ _ _ _).mono ?_; rintro e w2 ⟨rfl, hb2⟩))

  go_ret2
  exact ⟨rfl, (by repeat (first | (with_reducible exact Below.refl _ _) | (with_reducible exact HB.out) | (with_reducible apply below_alloc) | (with_reducible apply below_drew) | (with_reducible apply pw_below_drewN) | (with_reducible refine bstep' ?_ (by assumption)) | ((with_reducible refine Below.setCell ?_ ?_ _); rotate_left; (first | (dsimp only; omega) | (simp; done) | (simp; omega) | omega))))⟩

set_option maxHeartbeats 1600000 in
theorem dist_c (f : Fct) (A : Option Addr) (n c : Nat) (bs : List Bx) (w : World) (h : kBx.C w A n bs) (ha : 0 ≤ f.a ∧ f.a < n) (hb : 0 ≤ f.b ∧ f.b < n) (ba : validB (rBx bs f.a) = true) (bb : validB (rBx bs f.b) = true) :
    Calls Try.prog 90 #[.agg #[.int .i64 f.id, .int .i64 f.kind, .bool f.no, .int .i64 f.a, .int .i64 f.b, .int .i64 f.c, .int .i64 f.span.lo, .int .i64 f.span.hi, .int .i64 f.quarter, .slice A n c]] w fun e w' => e = .returned (.tuple #[.bool (canV f (distV f bs).lo (distV f bs).hi), .bool (mustV f (distV f bs).lo (distV f bs).hi)]) ∧ Below w.heap.size w w' := by
  have HV := Aside0.mk h
  have hn : n ≤ 9223372036854775807 := h.2.1
  obtain ⟨vx1, vx2, vx3⟩ := vecX_in ba bb
  obtain ⟨vy1, vy2, vy3⟩ := vecY_in ba bb
  obtain ⟨ax1, ax2, ax3⟩ : 0 ≤ amtLo (vecX f bs).lo (vecX f bs).hi ∧ amtLo (vecX f bs).lo (vecX f bs).hi ≤ amtHi (vecX f bs).lo (vecX f bs).hi ∧ amtHi (vecX f bs).lo (vecX f bs).hi ≤ 2097152 := amt_in (vecX_in ba bb)
  obtain ⟨ay1, ay2, ay3⟩ : 0 ≤ amtLo (vecY f bs).lo (vecY f bs).hi ∧ amtLo (vecY f bs).lo (vecY f bs).hi ≤ amtHi (vecY f bs).lo (vecY f bs).hi ∧ amtHi (vecY f bs).lo (vecY f bs).hi ≤ 2097152 := amt_in (vecY_in ba bb)
  obtain ⟨s1, s2⟩ := sq_in ax1 (by omega)
  obtain ⟨s3, s4⟩ := sq_in (Int.le_trans ax1 ax2) ax3
  obtain ⟨s5, s6⟩ := sq_in ay1 (by omega)
  obtain ⟨s7, s8⟩ := sq_in (Int.le_trans ay1 ay2) ay3
  clear h
  go_enter Try.func90, Try.ntmps90
  go_wp2_with (first | (go_at_call 103; refine (vector_c f _ _ _ bs _ (Kd.C_below HV.out (by repeat (first | (with_reducible exact Below.refl _ _) | (with_reducible exact HB.out) | (with_reducible apply below_alloc) | (with_reducible apply below_drew) | (with_reducible apply pw_below_drewN) | (with_reducible refine bstep' ?_ (by assumption)) | ((with_reducible refine Below.setCell ?_ ?_ _); rotate_left; (first | (dsimp only; omega) | (simp; done) | (simp; omega) | omega))))) ha hb hn ba bb).mono ?_; rintro e w1 ⟨rfl, hb1⟩; obtain ⟨hc1, hf1, hz1⟩ := bcell hb1; try simp only [World.size_alloc, World.size_setCell] at hz1; have hl1 : w.heap.size < w1.heap.size := by omega))
  have hl5 : w.heap.size < w1.heap.size + 1 + 1 := by omega
  (refine wp_region_tail (C := fun w' => ∃ t : Later _, w' = t.w) 4 (by kernel_rfl) (by kernel_rfl) (by decide) (by kernel_rfl) (by kernel_rfl) (by kernel_rfl) (by kernel_rfl) (IsLater.drew _) ?_; simp only [List.take_succ_cons, List.take_zero]; (repeat (first | go_big_quiet_step ((go_at_call 104; exact later_of (amount_c _ _ _ (by omega) (by omega)))) | quiet_step ((go_at_call 104; exact later_of (amount_c _ _ _ (by omega) (by omega)))))); refine wpQuiet_nil ?_; rintro _ ⟨tq, rfl⟩; refine tail_seq 4 (by kernel_rfl) ?_; simp only [List.drop_succ_cons, List.drop_zero])
  have hq := tq.h
  have hqs := tq.size
  simp only [World.size_alloc] at hqs
  have hl2 : w.heap.size < tq.w.heap.size := by omega
  have hl3 : w1.heap.size < tq.w.heap.size := by omega
  have hl4 : w1.heap.size + 1 < tq.w.heap.size := by omega
  have x0 : tq.w.cell? ⟨w1.heap.size, 0, none⟩ = some (.int .i64 (vecX f bs).lo) := (tq.cell? _ _ (by simp; omega)).trans (by go_simp)
  have x1 : tq.w.cell? ⟨w1.heap.size, 1, none⟩ = some (.int .i64 (vecX f bs).hi) := (tq.cell? _ _ (by simp; omega)).trans (by go_simp)
  have y0 : tq.w.cell? ⟨w1.heap.size + 1, 0, none⟩ = some (.int .i64 (vecY f bs).lo) := (tq.cell? _ _ (by simp)).trans (by go_simp)
  have y1 : tq.w.cell? ⟨w1.heap.size + 1, 1, none⟩ = some (.int .i64 (vecY f bs).hi) := (tq.cell? _ _ (by simp)).trans (by go_simp)
  have f0 : ∀ k, tq.w.frozen? ⟨w1.heap.size, k, none⟩ = false := fun k => (tq.frozen? _ _ (by simp; omega)).trans (by go_simp)
  have f1 : ∀ k, tq.w.frozen? ⟨w1.heap.size + 1, k, none⟩ = false := fun k => (tq.frozen? _ _ (by simp)).trans (by go_simp)
  go_wp2_with (first | (go_at_call 105; refine (valued_c f _ _ _ _).mono ?_; rintro e w2 ⟨rfl, hb2⟩))
  go_ret2
  exact ⟨rfl, (by repeat (first | (with_reducible exact Below.refl _ _) | (with_reducible exact HB.out) | (with_reducible assumption) | (with_reducible apply below_alloc) | (with_reducible apply below_drew) | (with_reducible apply pw_below_drewN) | (with_reducible refine bstep' ?_ (by assumption)) | ((with_reducible refine Below.setCell ?_ ?_ _); rotate_left; (first | (dsimp only; omega) | (simp; done) | (simp; omega) | omega))))⟩

set_option maxHeartbeats 1600000 in
theorem near_c (f : Fct) (A : Option Addr) (n c : Nat) (bs : List Bx) (w : World) (h : kBx.C w A n bs) (ha : 0 ≤ f.a ∧ f.a < n) (hb : 0 ≤ f.b ∧ f.b < n) (ba : validB (rBx bs f.a) = true) (bb : validB (rBx bs f.b) = true) :
    Calls Try.prog 93 #[.agg #[.int .i64 f.id, .int .i64 f.kind, .bool f.no, .int .i64 f.a, .int .i64 f.b, .int .i64 f.c, .int .i64 f.span.lo, .int .i64 f.span.hi, .int .i64 f.quarter, .slice A n c]] w fun e w' => e = .returned (.tuple #[.bool (nearB (amt (vecX f bs)).lo (amt (vecY f bs)).lo f.span.hi), .bool (nearB (amt (vecX f bs)).hi (amt (vecY f bs)).hi f.span.hi)]) ∧ Below w.heap.size w w' := by
  have HV := Aside0.mk h
  have hn : n ≤ 9223372036854775807 := h.2.1
  obtain ⟨vx1, vx2, vx3⟩ := vecX_in ba bb
  obtain ⟨vy1, vy2, vy3⟩ := vecY_in ba bb
  obtain ⟨ax1, ax2, ax3⟩ : 0 ≤ amtLo (vecX f bs).lo (vecX f bs).hi ∧ amtLo (vecX f bs).lo (vecX f bs).hi ≤ amtHi (vecX f bs).lo (vecX f bs).hi ∧ amtHi (vecX f bs).lo (vecX f bs).hi ≤ 2097152 := amt_in (vecX_in ba bb)
  obtain ⟨ay1, ay2, ay3⟩ : 0 ≤ amtLo (vecY f bs).lo (vecY f bs).hi ∧ amtLo (vecY f bs).lo (vecY f bs).hi ≤ amtHi (vecY f bs).lo (vecY f bs).hi ∧ amtHi (vecY f bs).lo (vecY f bs).hi ≤ 2097152 := amt_in (vecY_in ba bb)
  clear h
  go_enter Try.func93, Try.ntmps93
  go_wp2_with (first | (go_at_call 103; refine (vector_c f _ _ _ bs _ (Kd.C_below HV.out (by repeat (first | (with_reducible exact Below.refl _ _) | (with_reducible exact HB.out) | (with_reducible apply below_alloc) | (with_reducible apply below_drew) | (with_reducible apply pw_below_drewN) | (with_reducible refine bstep' ?_ (by assumption)) | ((with_reducible refine Below.setCell ?_ ?_ _); rotate_left; (first | (dsimp only; omega) | (simp; done) | (simp; omega) | omega))))) ha hb hn ba bb).mono ?_; rintro e w1 ⟨rfl, hb1⟩; obtain ⟨hc1, hf1, hz1⟩ := bcell hb1; try simp only [World.size_alloc, World.size_setCell] at hz1; have hl1 : w.heap.size < w1.heap.size := by omega))
  have hl5 : w.heap.size < w1.heap.size + 1 + 1 := by omega
  (refine wp_region_tail (C := fun w' => ∃ t : Later _, w' = t.w) 4 (by kernel_rfl) (by kernel_rfl) (by decide) (by kernel_rfl) (by kernel_rfl) (by kernel_rfl) (by kernel_rfl) (IsLater.drew _) ?_; simp only [List.take_succ_cons, List.take_zero]; (repeat (first | go_big_quiet_step ((go_at_call 104; exact later_of (amount_c _ _ _ (by omega) (by omega)))) | quiet_step ((go_at_call 104; exact later_of (amount_c _ _ _ (by omega) (by omega)))))); refine wpQuiet_nil ?_; rintro _ ⟨tq, rfl⟩; refine tail_seq 4 (by kernel_rfl) ?_; simp only [List.drop_succ_cons, List.drop_zero])
  have hq := tq.h
  have hqs := tq.size
  simp only [World.size_alloc] at hqs
  have hl2 : w.heap.size < tq.w.heap.size := by omega
  have hl3 : w1.heap.size < tq.w.heap.size := by omega
  have hl4 : w1.heap.size + 1 < tq.w.heap.size := by omega
  have x0 : tq.w.cell? ⟨w1.heap.size, 0, none⟩ = some (.int .i64 (vecX f bs).lo) := (tq.cell? _ _ (by simp; omega)).trans (by go_simp)
  have x1 : tq.w.cell? ⟨w1.heap.size, 1, none⟩ = some (.int .i64 (vecX f bs).hi) := (tq.cell? _ _ (by simp; omega)).trans (by go_simp)
  have y0 : tq.w.cell? ⟨w1.heap.size + 1, 0, none⟩ = some (.int .i64 (vecY f bs).lo) := (tq.cell? _ _ (by simp)).trans (by go_simp)
  have y1 : tq.w.cell? ⟨w1.heap.size + 1, 1, none⟩ = some (.int .i64 (vecY f bs).hi) := (tq.cell? _ _ (by simp)).trans (by go_simp)
  have f0 : ∀ k, tq.w.frozen? ⟨w1.heap.size, k, none⟩ = false := fun k => (tq.frozen? _ _ (by simp; omega)).trans (by go_simp)
  have f1 : ∀ k, tq.w.frozen? ⟨w1.heap.size + 1, k, none⟩ = false := fun k => (tq.frozen? _ _ (by simp)).trans (by go_simp)
  go_wp2_with fail
  have hl7 : w.heap.size < tq.w.heap.size := hl2
  (refine wp_region_quiet (C := fun w' => ∃ t : Later _, w' = t.w) (by kernel_rfl) (by kernel_rfl) (IsLater.drew _) ?_; (repeat (first | go_big_quiet_step (fail) | quiet_step (fail))); refine wpQuiet_nil ?_; rintro _ ⟨tq, rfl⟩)
  have hr := tq.h
  go_wp2
  all_goals (go_ret2; refine ⟨?_, (by repeat (first | (with_reducible exact Below.refl _ _) | (with_reducible exact HB.out) | (with_reducible assumption) | (with_reducible apply below_alloc) | (with_reducible apply below_drew) | (with_reducible apply pw_below_drewN) | (with_reducible refine bstep' ?_ (by assumption)) | ((with_reducible refine Below.setCell ?_ ?_ _); rotate_left; (first | (dsimp only; omega) | (simp; done) | (simp; omega) | omega))))⟩)
  · rw [near_r (by assumption), near_r (by assumption)]; rfl
  · rw [near_r (by assumption), near_l (by assumption)]; rfl
  · rw [near_l (by assumption), near_r (by assumption)]; rfl
  · rw [near_l (by assumption), near_l (by assumption)]; rfl

end Go.Proofs.Ytkkimlicabbooaa

/-
  The reader's methods quarter of package search.
-/
namespace Go.Proofs.Ytkkimlicabbooaa
open Go.RowKit Go.Proofs.YtkkimlicabbooaaW.PrintWords Bs
attribute [local go_sem] Later.cell? Later.frozen?
set_option linter.unusedVariables false
set_option linter.unusedSimpArgs false

def QuarMid (w w1 W : World) (x y : Spn) (p q : Value) : Prop :=
  p = .pointer (some ⟨w1.heap.size, 0, none⟩) ∧ q = .pointer (some ⟨w1.heap.size + 1, 0, none⟩) ∧
  W.cell? ⟨w1.heap.size, 0, none⟩ = some (.int .i64 x.lo) ∧ W.cell? ⟨w1.heap.size, 1, none⟩ = some (.int .i64 x.hi) ∧ W.cell? ⟨w1.heap.size + 1, 0, none⟩ = some (.int .i64 y.lo) ∧ W.cell? ⟨w1.heap.size + 1, 1, none⟩ = some (.int .i64 y.hi) ∧
  (∀ k, W.frozen? ⟨w1.heap.size, k, none⟩ = false) ∧ (∀ k, W.frozen? ⟨w1.heap.size + 1, k, none⟩ = false) ∧ w1.heap.size < W.heap.size ∧ w1.heap.size + 1 < W.heap.size ∧ Below w.heap.size w W
set_option maxHeartbeats 1600000 in
theorem quarter_c (f : Fct) (A : Option Addr) (n c : Nat) (bs : List Bx) (w : World) (h : kBx.C w A n bs) (ha : 0 ≤ f.a ∧ f.a < n) (hb : 0 ≤ f.b ∧ f.b < n) (ba : validB (rBx bs f.a) = true) (bb : validB (rBx bs f.b) = true) :
    Calls Try.prog 92 #[.agg #[.int .i64 f.id, .int .i64 f.kind, .bool f.no, .int .i64 f.a, .int .i64 f.b, .int .i64 f.c, .int .i64 f.span.lo, .int .i64 f.span.hi, .int .i64 f.quarter, .slice A n c]] w fun e w' => e = .returned (.tuple #[.bool (quarCan (quarX f bs) (amt (quarY f bs))), .bool (quarMust (quarX f bs) (amt (quarY f bs)))]) ∧ Below w.heap.size w w' := by
  have HV := Aside0.mk h
  have hn : n ≤ 9223372036854775807 := h.2.1
  obtain ⟨vx1, vx2, vx3⟩ := vecX_in ba bb
  obtain ⟨vy1, vy2, vy3⟩ := vecY_in ba bb
  clear h
  go_enter Try.func92, Try.ntmps92
  go_upto_block 0 with (first | (go_at_call 103; refine (vector_c f _ _ _ bs _ (Kd.C_below HV.out (by repeat (first | (with_reducible exact Below.refl _ _) | (with_reducible exact HB.out) | (with_reducible apply below_alloc) | (with_reducible apply below_drew) | (with_reducible apply pw_below_drewN) | (with_reducible refine bstep' ?_ (by assumption)) | ((with_reducible refine Below.setCell ?_ ?_ _); rotate_left; (first | (dsimp only; omega) | (simp; done) | (simp; omega) | omega))))) ha hb hn ba bb).mono ?_; rintro e w1 ⟨rfl, hb1⟩; obtain ⟨hc1, hf1, hz1⟩ := bcell hb1; try simp only [World.size_alloc, World.size_setCell] at hz1; have hl1 : w.heap.size < w1.heap.size := by omega))
  go_cut [4, 5] (fun p q W => QuarMid w w1 W (quarX f bs) (quarY f bs) p q)
  case first =>
    by_cases q1 : f.quarter = 1
    · have HX := Aside0.mk (show quarX f bs = vecY f bs by simp [quarX, q1])
      have HY := Aside0.mk (show quarY f bs = vecX f bs by simp [quarY, q1])
      go_wp2_with fail
      go_meet
      case rel => show QuarMid _ _ _ _ _ _ _; rw [HX.out, HY.out]; (try simp only [neg]); exact ⟨rfl, rfl, by go_simp, by go_simp, by go_simp, by go_simp, by intro i; go_simp, by intro i; go_simp, by go_simp, by go_simp, (by repeat (first | (with_reducible exact Below.refl _ _) | (with_reducible exact HB.out) | (with_reducible assumption) | (with_reducible apply below_alloc) | (with_reducible apply below_drew) | (with_reducible apply pw_below_drewN) | (with_reducible refine bstep' ?_ (by assumption)) | ((with_reducible refine Below.setCell ?_ ?_ _); rotate_left; (first | (dsimp only; omega) | (simp; done) | (simp; omega) | omega))))⟩
    · by_cases q2 : f.quarter = 2
      · have HX := Aside0.mk (show quarX f bs = neg (vecX f bs) by simp [quarX, q2])
        have HY := Aside0.mk (show quarY f bs = vecY f bs by simp [quarY, q2])
        go_wp2_with fail
        go_meet
        case rel => show QuarMid _ _ _ _ _ _ _; rw [HX.out, HY.out]; (try simp only [neg]); exact ⟨rfl, rfl, by go_simp, by go_simp, by go_simp, by go_simp, by intro i; go_simp, by intro i; go_simp, by go_simp, by go_simp, (by repeat (first | (with_reducible exact Below.refl _ _) | (with_reducible exact HB.out) | (with_reducible assumption) | (with_reducible apply below_alloc) | (with_reducible apply below_drew) | (with_reducible apply pw_below_drewN) | (with_reducible refine bstep' ?_ (by assumption)) | ((with_reducible refine Below.setCell ?_ ?_ _); rotate_left; (first | (dsimp only; omega) | (simp; done) | (simp; omega) | omega))))⟩
      · by_cases q3 : f.quarter = 3
        · have HX := Aside0.mk (show quarX f bs = neg (vecY f bs) by simp [quarX, q3])
          have HY := Aside0.mk (show quarY f bs = vecX f bs by simp [quarY, q3])
          go_wp2_with fail
          go_meet
          case rel => show QuarMid _ _ _ _ _ _ _; rw [HX.out, HY.out]; (try simp only [neg]); exact ⟨rfl, rfl, by go_simp, by go_simp, by go_simp, by go_simp, by intro i; go_simp, by intro i; go_simp, by go_simp, by go_simp, (by repeat (first | (with_reducible exact Below.refl _ _) | (with_reducible exact HB.out) | (with_reducible assumption) | (with_reducible apply below_alloc) | (with_reducible apply below_drew) | (with_reducible apply pw_below_drewN) | (with_reducible refine bstep' ?_ (by assumption)) | ((with_reducible refine Below.setCell ?_ ?_ _); rotate_left; (first | (dsimp only; omega) | (simp; done) | (simp; omega) | omega))))⟩
        · have HX := Aside0.mk (show quarX f bs = vecX f bs by simp [quarX, q1, q2, q3])
          have HY := Aside0.mk (show quarY f bs = vecY f bs by simp [quarY, q1, q2, q3])
          go_wp2_with fail
          go_meet
          case rel => show QuarMid _ _ _ _ _ _ _; rw [HX.out, HY.out]; (try simp only [neg]); exact ⟨rfl, rfl, by go_simp, by go_simp, by go_simp, by go_simp, by intro i; go_simp, by intro i; go_simp, by go_simp, by go_simp, (by repeat (first | (with_reducible exact Below.refl _ _) | (with_reducible exact HB.out) | (with_reducible assumption) | (with_reducible apply below_alloc) | (with_reducible apply below_drew) | (with_reducible apply pw_below_drewN) | (with_reducible refine bstep' ?_ (by assumption)) | ((with_reducible refine Below.setCell ?_ ?_ _); rotate_left; (first | (dsimp only; omega) | (simp; done) | (simp; omega) | omega))))⟩
  case rest =>
    obtain ⟨rfl, rfl, x0, x1, y0, y1, f0, f1, hl2, hl3, hbc⟩ := hcut
    obtain ⟨vy1, vy2, vy3⟩ := quarY_in ba bb
    go_wp2_with (first | (go_at_call 104; refine (amount_c _ _ _ (by omega) (by omega)).mono ?_; rintro e w2 ⟨rfl, hb2⟩; obtain ⟨hc2, hf2, hz2⟩ := bcell hb2; try simp only [World.size_alloc, World.size_setCell] at hz2; have hl4 : w1.heap.size < w2.heap.size := by omega; have hl5 : w1.heap.size + 1 < w2.heap.size := by omega))
    generalize hW : (World.setCell w2 _ _).setCell _ _ = W2
    have g0 : W2.cell? ⟨w1.heap.size, 0, none⟩ = some (.int .i64 (quarX f bs).lo) := by subst hW; go_simp
    have g1 : W2.cell? ⟨w1.heap.size, 1, none⟩ = some (.int .i64 (quarX f bs).hi) := by subst hW; go_simp
    have g2 : W2.cell? ⟨w1.heap.size + 1, 0, none⟩ = some (.int .i64 (amtLo (quarY f bs).lo (quarY f bs).hi)) := by subst hW; go_simp
    have g3 : W2.cell? ⟨w1.heap.size + 1, 1, none⟩ = some (.int .i64 (amtHi (quarY f bs).lo (quarY f bs).hi)) := by subst hW; go_simp
    have hl6 : w1.heap.size < W2.heap.size := by subst hW; simp; omega
    have hl7 : w1.heap.size + 1 < W2.heap.size := by subst hW; simp; omega
    have hbW : Below w.heap.size w W2 := by subst hW; exact (by repeat (first | (with_reducible exact Below.refl _ _) | (with_reducible exact HB.out) | (with_reducible assumption) | (with_reducible apply below_alloc) | (with_reducible apply below_drew) | (with_reducible apply pw_below_drewN) | (with_reducible refine bstep' ?_ (by assumption)) | ((with_reducible refine Below.setCell ?_ ?_ _); rotate_left; (first | (dsimp only; omega) | (simp; done) | (simp; omega) | omega))))
    clear hW hc2 hf2 hb2 x0 x1 y0 y1 f0 f1 hbc
    by_cases h1 : 0 < (quarX f bs).hi
    · by_cases h2 : 0 < (quarX f bs).lo
      · (refine wp_region_quiet (C := fun w' => ∃ t : Later _, w' = t.w) (by kernel_rfl) (by kernel_rfl) (IsLater.drew _) ?_; (repeat (first | go_big_quiet_step (fail) | quiet_step (fail))); refine wpQuiet_nil ?_; rintro _ ⟨tq, rfl⟩)
        have hr := tq.h
        go_wp2
        go_ret2
        exact ⟨by first | (simp [quarCan, quarMust, amt, *]; done) | (simp [quarCan, quarMust, amt, *]; exact ⟨by congr, by congr⟩) | (simp [quarCan, quarMust, amt, *]; congr), (by repeat (first | (with_reducible exact Below.refl _ _) | (with_reducible exact HB.out) | (with_reducible assumption) | (with_reducible apply below_alloc) | (with_reducible apply below_drew) | (with_reducible apply pw_below_drewN) | (with_reducible refine bstep' ?_ (by assumption)) | ((with_reducible refine Below.setCell ?_ ?_ _); rotate_left; (first | (dsimp only; omega) | (simp; done) | (simp; omega) | omega))))⟩
      · have h2' : decide (0 < (quarX f bs).lo) = false := by simpa using h2
        (refine wp_region_quiet (C := fun w' => ∃ t : Later _, w' = t.w) (by kernel_rfl) (by kernel_rfl) (IsLater.drew _) ?_; (repeat (first | go_big_quiet_step (fail) | quiet_step (fail))); refine wpQuiet_nil ?_; rintro _ ⟨tq, rfl⟩)
        have hr := tq.h
        go_wp2
        go_ret2
        exact ⟨by first | (simp [quarCan, quarMust, amt, *]; done) | (simp [quarCan, quarMust, amt, *]; exact ⟨by congr, by congr⟩) | (simp [quarCan, quarMust, amt, *]; congr), (by repeat (first | (with_reducible exact Below.refl _ _) | (with_reducible exact HB.out) | (with_reducible assumption) | (with_reducible apply below_alloc) | (with_reducible apply below_drew) | (with_reducible apply pw_below_drewN) | (with_reducible refine bstep' ?_ (by assumption)) | ((with_reducible refine Below.setCell ?_ ?_ _); rotate_left; (first | (dsimp only; omega) | (simp; done) | (simp; omega) | omega))))⟩
    · have h1' : decide (0 < (quarX f bs).hi) = false := by simpa using h1
      by_cases h2 : 0 < (quarX f bs).lo
      · (refine wp_region_quiet (C := fun w' => ∃ t : Later _, w' = t.w) (by kernel_rfl) (by kernel_rfl) (IsLater.drew _) ?_; (repeat (first | go_big_quiet_step (fail) | quiet_step (fail))); refine wpQuiet_nil ?_; rintro _ ⟨tq, rfl⟩)
        have hr := tq.h
        go_wp2
        go_ret2
        exact ⟨by first | (simp [quarCan, quarMust, amt, *]; done) | (simp [quarCan, quarMust, amt, *]; exact ⟨by congr, by congr⟩) | (simp [quarCan, quarMust, amt, *]; congr), (by repeat (first | (with_reducible exact Below.refl _ _) | (with_reducible exact HB.out) | (with_reducible assumption) | (with_reducible apply below_alloc) | (with_reducible apply below_drew) | (with_reducible apply pw_below_drewN) | (with_reducible refine bstep' ?_ (by assumption)) | ((with_reducible refine Below.setCell ?_ ?_ _); rotate_left; (first | (dsimp only; omega) | (simp; done) | (simp; omega) | omega))))⟩
      · have h2' : decide (0 < (quarX f bs).lo) = false := by simpa using h2
        (refine wp_region_quiet (C := fun w' => ∃ t : Later _, w' = t.w) (by kernel_rfl) (by kernel_rfl) (IsLater.drew _) ?_; (repeat (first | go_big_quiet_step (fail) | quiet_step (fail))); refine wpQuiet_nil ?_; rintro _ ⟨tq, rfl⟩)
        have hr := tq.h
        go_wp2
        go_ret2
        exact ⟨by first | (simp [quarCan, quarMust, amt, *]; done) | (simp [quarCan, quarMust, amt, *]; exact ⟨by congr, by congr⟩) | (simp [quarCan, quarMust, amt, *]; congr), (by repeat (first | (with_reducible exact Below.refl _ _) | (with_reducible exact HB.out) | (with_reducible assumption) | (with_reducible apply below_alloc) | (with_reducible apply below_drew) | (with_reducible apply pw_below_drewN) | (with_reducible refine bstep' ?_ (by assumption)) | ((with_reducible refine Below.setCell ?_ ?_ _); rotate_left; (first | (dsimp only; omega) | (simp; done) | (simp; omega) | omega))))⟩

end Go.Proofs.Ytkkimlicabbooaa

/-
  The reader's method turn of package search: the least and the greatest turn over the corners of three boxes.
-/
namespace Go.Proofs.Ytkkimlicabbooaa
open Go.RowKit Go.Proofs.YtkkimlicabbooaaW.PrintWords Bs
attribute [local go_sem] Later.cell? Later.frozen?
set_option linter.unusedVariables false
set_option linter.unusedSimpArgs false

/-- wr is W0, but for block vb, which holds the least and the greatest of L. -/
def TV (w W0 : World) (vb : Nat) (wr : World) (L : List Int) : Prop :=
  (∀ b o, b < W0.heap.size → b ≠ vb → wr.cell? ⟨b, o, none⟩ = W0.cell? ⟨b, o, none⟩) ∧ wr.cell? ⟨vb, 0, none⟩ = some (.int .i64 (minL L)) ∧ wr.cell? ⟨vb, 1, none⟩ = some (.int .i64 (maxL L)) ∧
  (∀ o, wr.frozen? ⟨vb, o, none⟩ = false) ∧ W0.heap.size ≤ wr.heap.size ∧ vb < wr.heap.size ∧ Below w.heap.size w wr
theorem TV.start {w W : World} {vb : Nat} {L : List Int} (h0 : W.cell? ⟨vb, 0, none⟩ = some (.int .i64 (minL L))) (h1 : W.cell? ⟨vb, 1, none⟩ = some (.int .i64 (maxL L))) (hf : ∀ o, W.frozen? ⟨vb, o, none⟩ = false) (hb : Below w.heap.size w W) : TV w W vb W L :=
  ⟨fun _ _ _ _ => rfl, h0, h1, hf, Nat.le_refl _, World.block_lt_of_cell? _ _ h0, hb⟩
theorem TV.again {w W0 wr : World} {vb : Nat} {L : List Int} (h : TV w W0 vb wr L) : TV w wr vb wr L := TV.start h.2.1 h.2.2.1 h.2.2.2.1 h.2.2.2.2.2.2
theorem TV.below {w W0 wr w2 : World} {vb : Nat} {L : List Int} (h : TV w W0 vb wr L) (hb : Below wr.heap.size wr w2) : TV w W0 vb w2 L := by
  obtain ⟨h1, h2, h3, h4, h5, h6, h7⟩ := h
  exact ⟨fun b o hl hn => (hb.cell (p := ⟨b, o, none⟩) (Nat.lt_of_lt_of_le hl h5)).trans (h1 b o hl hn), (hb.cell (p := ⟨vb, 0, none⟩) h6).trans h2, (hb.cell (p := ⟨vb, 1, none⟩) h6).trans h3,
    fun o => (hb.frozen (p := ⟨vb, o, none⟩) h6).trans (h4 o), Nat.le_trans h5 hb.size, Nat.lt_of_lt_of_le h6 hb.size, bstep' h7 hb⟩
theorem TV.up {w W0 W1 wr : World} {vb : Nat} {L M : List Int} (h : TV w W0 vb W1 M) (k : TV w W1 vb wr L) : TV w W0 vb wr L := by
  obtain ⟨h1, h2, h3, h4, h5, h6, h7⟩ := h
  obtain ⟨k1, k2, k3, k4, k5, k6, k7⟩ := k
  exact ⟨fun b o hl hn => (k1 b o (Nat.lt_of_lt_of_le hl h5) hn).trans (h1 b o hl hn), k2, k3, k4, Nat.le_trans h5 k5, k6, k7⟩

theorem min_sel {l : List Int} {n x : Int} (he : l.isEmpty = false) (h : (n < minL l ∧ x = n) ∨ (minL l ≤ n ∧ x = minL l)) : x = minL (l ++ [n]) := by
  rw [minL_snoc, he]
  rcases h with ⟨h, rfl⟩ | ⟨h, rfl⟩ <;> simp <;> omega
theorem max_sel {l : List Int} {n x : Int} (he : l.isEmpty = false) (h : (maxL l < n ∧ x = n) ∨ (n ≤ maxL l ∧ x = maxL l)) : x = maxL (l ++ [n]) := by
  rw [maxL_snoc, he]
  rcases h with ⟨h, rfl⟩ | ⟨h, rfl⟩ <;> simp <;> omega
theorem TV.set {w W0 wr : World} {vb : Nat} {L M : List Int} {x y : Int} (h : TV w W0 vb wr L) (hv : w.heap.size ≤ vb) (hx : x = minL M) (hy : y = maxL M) : TV w W0 vb ((wr.setCell ⟨vb, 0, none⟩ (.int .i64 x)).setCell ⟨vb, 1, none⟩ (.int .i64 y)) M := by
  obtain ⟨h1, h2, h3, h4, h5, h6, h7⟩ := h
  subst hx hy
  refine ⟨fun b o hl hn => ?_, by go_simp, by go_simp, by intro o; go_simp, by simpa using h5, by simpa using h6, (h7.setCell hv _).setCell hv _⟩
  rw [World.cell?_of_block (Below.heap_setCell _ _ _ b hn), World.cell?_of_block (Below.heap_setCell _ _ _ b hn)]
  exact h1 b o hl hn

theorem index_cor (b : Bx) (k : Nat) (h : k < 4) (w : World) :
    (Instr.index 151 (.agg #[.int .i64 b.x.lo, .int .i64 b.y.lo, .int .i64 b.x.lo, .int .i64 b.y.hi, .int .i64 b.x.hi, .int .i64 b.y.lo, .int .i64 b.x.hi, .int .i64 b.y.hi]) (.int .i64 (k : Int))).run Try.prog w = .ok (.agg #[.int .i64 (cor b k).x, .int .i64 (cor b k).y]) w := by
  rcases k with _ | _ | _ | _ | k
  · kernel_rfl
  · kernel_rfl
  · kernel_rfl
  · kernel_rfl
  · omega

set_option maxHeartbeats 3200000 in
set_option maxRecDepth 100000 in
theorem turnm_c (f : Fct) (A : Option Addr) (n c : Nat) (bs : List Bx) (w : World) (h : kBx.C w A n bs) (ha : 0 ≤ f.a ∧ f.a < n) (hb : 0 ≤ f.b ∧ f.b < n) (hc : 0 ≤ f.c ∧ f.c < n)
    (ba : validB (rBx bs f.a) = true) (bb : validB (rBx bs f.b) = true) (bc : validB (rBx bs f.c) = true) :
    Calls Try.prog 91 #[.agg #[.int .i64 f.id, .int .i64 f.kind, .bool f.no, .int .i64 f.a, .int .i64 f.b, .int .i64 f.c, .int .i64 f.span.lo, .int .i64 f.span.hi, .int .i64 f.quarter, .slice A n c]] w fun e w' => e = .returned (.tuple #[.bool (canV f (turnV f bs).lo (turnV f bs).hi), .bool (mustV f (turnV f bs).lo (turnV f bs).hi)]) ∧ Below w.heap.size w w' := by
  have hn : n ≤ 9223372036854775807 := h.2.1
  obtain ⟨bk, off, rfl, hbk, a0, a1, a2, a3⟩ := at_Bx h f.a ha.1 ha.2
  obtain ⟨_, _, he, _, b0, b1, b2, b3⟩ := at_Bx h f.b hb.1 hb.2
  cases he
  obtain ⟨_, _, he, _, c0, c1, c2, c3⟩ := at_Bx h f.c hc.1 hc.2
  cases he
  clear h
  have hz1 : bk < w.heap.size + 1 := by omega
  have hz2 : bk < w.heap.size + 1 + 1 := by omega
  go_enter Try.func91, Try.ntmps91
  go_wp2_with (first | (go_at_call 106; refine (corners_c _ _ _ _ _).mono ?_; rintro e w1 ⟨rfl, hb1⟩; have hb1' := Aside0.mk hb1; obtain ⟨hc1, hf1, hz1⟩ := bcell hb1; try simp only [World.size_alloc, World.size_setCell] at hz1))
  have e3 : w1.cell? ⟨w.heap.size, 3, none⟩ = some (.int .i64 f.a) := by go_simp
  have e4 : w1.cell? ⟨w.heap.size, 4, none⟩ = some (.int .i64 f.b) := by go_simp
  have e5 : w1.cell? ⟨w.heap.size, 5, none⟩ = some (.int .i64 f.c) := by go_simp
  have e9 : w1.cell? ⟨w.heap.size, 9, none⟩ = some (.slice (some ⟨bk, off, none⟩) n c) := by go_simp
  have e0 : w1.cell? ⟨w.heap.size, 0, none⟩ = some (.int .i64 f.id) := by go_simp
  have e1 : w1.cell? ⟨w.heap.size, 1, none⟩ = some (.int .i64 f.kind) := by go_simp
  have e2 : w1.cell? ⟨w.heap.size, 2, none⟩ = some (.bool f.no) := by go_simp
  have e6 : w1.cell? ⟨w.heap.size, 6, none⟩ = some (.int .i64 f.span.lo) := by go_simp
  have e7 : w1.cell? ⟨w.heap.size, 7, none⟩ = some (.int .i64 f.span.hi) := by go_simp
  have e8 : w1.cell? ⟨w.heap.size, 8, none⟩ = some (.int .i64 f.quarter) := by go_simp
  have b0' : w1.cell? ⟨bk, off + f.b.toNat * 4, none⟩ = some (.int .i64 (rBx bs f.b).x.lo) := by go_simp
  have b1' : w1.cell? ⟨bk, off + f.b.toNat * 4 + 1, none⟩ = some (.int .i64 (rBx bs f.b).x.hi) := by go_simp
  have b2' : w1.cell? ⟨bk, off + f.b.toNat * 4 + 2, none⟩ = some (.int .i64 (rBx bs f.b).y.lo) := by go_simp
  have b3' : w1.cell? ⟨bk, off + f.b.toNat * 4 + 3, none⟩ = some (.int .i64 (rBx bs f.b).y.hi) := by go_simp
  have c0' : w1.cell? ⟨bk, off + f.c.toNat * 4, none⟩ = some (.int .i64 (rBx bs f.c).x.lo) := by go_simp
  have c1' : w1.cell? ⟨bk, off + f.c.toNat * 4 + 1, none⟩ = some (.int .i64 (rBx bs f.c).x.hi) := by go_simp
  have c2' : w1.cell? ⟨bk, off + f.c.toNat * 4 + 2, none⟩ = some (.int .i64 (rBx bs f.c).y.lo) := by go_simp
  have c3' : w1.cell? ⟨bk, off + f.c.toNat * 4 + 3, none⟩ = some (.int .i64 (rBx bs f.c).y.hi) := by go_simp
  have T1 : TV w w1 (w.heap.size + 1) w1 (T3 (rBx bs f.a) (rBx bs f.b) (rBx bs f.c) 0 0 0) := by
    rw [T3_0]; exact TV.start (by go_simp; rfl) (by go_simp; rfl) (by intro o; go_simp) (by repeat (first | (with_reducible exact Below.refl _ _) | (with_reducible exact HB.out) | (with_reducible assumption) | (with_reducible apply below_alloc) | (with_reducible apply below_drew) | (with_reducible apply pw_below_drewN) | (with_reducible refine bstep' ?_ (by assumption)) | ((with_reducible refine Below.setCell ?_ ?_ _); rotate_left; (first | (dsimp only; omega) | (simp; done) | (simp; omega) | omega))))
  have hlr : w.heap.size < w1.heap.size := by omega
  have hlb : bk < w1.heap.size := by omega
  have hnb : bk ≠ w.heap.size + 1 := by omega
  clear hc1 hf1 hb1 hb1' a0 a1 a2 a3 b0 b1 b2 b3 c0 c1 c2 c3 hz1 hz2
  have emp : (T3 (rBx bs f.a) (rBx bs f.b) (rBx bs f.c) 0 0 0).isEmpty = true := by rw [T3_0]; rfl
  go_loopg [4, 22] 4 (fun k first cnt wr => ∃ i : Nat, i + k = 4 ∧ cnt = .int .i64 i ∧ first = .bool (T3 (rBx bs f.a) (rBx bs f.b) (rBx bs f.c) i 0 0).isEmpty ∧ TV w w1 (w.heap.size + 1) wr (T3 (rBx bs f.a) (rBx bs f.b) (rBx bs f.c) i 0 0))
  case atStart => exact ⟨0, rfl, rfl, by rw [emp], T1⟩
  case round =>
    obtain ⟨i, hi, rfl, rfl, TA⟩ := hrel
    obtain ⟨u1, rfl⟩ : ∃ u, u = wr := ⟨_, rfl⟩
    obtain ⟨g1, rfl⟩ : ∃ g, g = gk := ⟨_, rfl⟩
    obtain ⟨q1, q2, q3, q4, q5, q6, q7⟩ := TA
    have HA := Aside0.mk (show TV w w1 (w.heap.size + 1) u1 (T3 (rBx bs f.a) (rBx bs f.b) (rBx bs f.c) i 0 0) from ⟨q1, q2, q3, q4, q5, q6, q7⟩)
    have hur : w.heap.size < u1.heap.size := by omega
    have hub : bk < u1.heap.size := by omega
    by_cases hlt : i < 4
    · have ix := index_cor (rBx bs f.a) i hlt
      go_wp2_with (first | (go_at_call 106; refine (corners_c _ _ _ _ _).mono ?_; rintro e w2 ⟨rfl, hb2⟩; obtain ⟨hc2, hf2, hz2⟩ := bcell hb2; try simp only [World.size_alloc, World.size_setCell] at hz2))
      have e3_2 : w2.cell? ⟨w.heap.size, 3, none⟩ = some (.int .i64 f.a) := by go_simp
      have e4_2 : w2.cell? ⟨w.heap.size, 4, none⟩ = some (.int .i64 f.b) := by go_simp
      have e5_2 : w2.cell? ⟨w.heap.size, 5, none⟩ = some (.int .i64 f.c) := by go_simp
      have e9_2 : w2.cell? ⟨w.heap.size, 9, none⟩ = some (.slice (some ⟨bk, off, none⟩) n c) := by go_simp
      have e0_2 : w2.cell? ⟨w.heap.size, 0, none⟩ = some (.int .i64 f.id) := by go_simp
      have e1_2 : w2.cell? ⟨w.heap.size, 1, none⟩ = some (.int .i64 f.kind) := by go_simp
      have e2_2 : w2.cell? ⟨w.heap.size, 2, none⟩ = some (.bool f.no) := by go_simp
      have e6_2 : w2.cell? ⟨w.heap.size, 6, none⟩ = some (.int .i64 f.span.lo) := by go_simp
      have e7_2 : w2.cell? ⟨w.heap.size, 7, none⟩ = some (.int .i64 f.span.hi) := by go_simp
      have e8_2 : w2.cell? ⟨w.heap.size, 8, none⟩ = some (.int .i64 f.quarter) := by go_simp
      have c0_2 : w2.cell? ⟨bk, off + f.c.toNat * 4, none⟩ = some (.int .i64 (rBx bs f.c).x.lo) := by go_simp
      have c1_2 : w2.cell? ⟨bk, off + f.c.toNat * 4 + 1, none⟩ = some (.int .i64 (rBx bs f.c).x.hi) := by go_simp
      have c2_2 : w2.cell? ⟨bk, off + f.c.toNat * 4 + 2, none⟩ = some (.int .i64 (rBx bs f.c).y.lo) := by go_simp
      have c3_2 : w2.cell? ⟨bk, off + f.c.toNat * 4 + 3, none⟩ = some (.int .i64 (rBx bs f.c).y.hi) := by go_simp
      have p0_2 : w2.cell? ⟨u1.heap.size, 0, none⟩ = some (.int .i64 (cor (rBx bs f.a) i).x) := by go_simp
      have p1_2 : w2.cell? ⟨u1.heap.size, 1, none⟩ = some (.int .i64 (cor (rBx bs f.a) i).y) := by go_simp
      have TB : TV w w1 (w.heap.size + 1) w2 (T3 (rBx bs f.a) (rBx bs f.b) (rBx bs f.c) i 0 0) := HA.out.below (by repeat (first | (with_reducible exact Below.refl _ _) | (with_reducible exact HB.out) | (with_reducible assumption) | (with_reducible apply below_alloc) | (with_reducible apply below_drew) | (with_reducible apply pw_below_drewN) | (with_reducible refine bstep' ?_ (by assumption)) | ((with_reducible refine Below.setCell ?_ ?_ _); rotate_left; (first | (dsimp only; omega) | (simp; done) | (simp; omega) | omega))))
      have TB2 := Aside0.mk TB
      have T2 := TB.again
      have hlr2 : w.heap.size < w2.heap.size := by omega
      have hlb2 : bk < w2.heap.size := by omega
      have hlu2 : u1.heap.size < w2.heap.size := by omega
      have hnu : u1.heap.size ≠ w.heap.size + 1 := by omega
      clear TB hc2 hf2 hb2 q1 q2 q3 q4 ix
      go_loopg [4, 33] 4 (fun k first cnt wr => ∃ j : Nat, j + k = 4 ∧ cnt = .int .i64 j ∧ first = .bool (T3 (rBx bs f.a) (rBx bs f.b) (rBx bs f.c) i j 0).isEmpty ∧ TV w w2 (w.heap.size + 1) wr (T3 (rBx bs f.a) (rBx bs f.b) (rBx bs f.c) i j 0))
      case atStart => exact ⟨0, rfl, rfl, rfl, T2⟩
      case round =>
        obtain ⟨j, hj, rfl, rfl, TA⟩ := hrel
        obtain ⟨u2, rfl⟩ : ∃ u, u = wr := ⟨_, rfl⟩
        obtain ⟨g2, rfl⟩ : ∃ g, g = gk := ⟨_, rfl⟩
        obtain ⟨q1, q2, q3, q4, q5, q6', q7'⟩ := TA
        have HB := Aside0.mk (show TV w w2 (w.heap.size + 1) u2 (T3 (rBx bs f.a) (rBx bs f.b) (rBx bs f.c) i j 0) from ⟨q1, q2, q3, q4, q5, q6', q7'⟩)
        have hvr : w.heap.size < u2.heap.size := by omega
        have hvb : bk < u2.heap.size := by omega
        have hvu : u1.heap.size < u2.heap.size := by omega
        by_cases hlt2 : j < 4
        · have ix := index_cor (rBx bs f.b) j hlt2
          go_wp2_with (first | (go_at_call 106; refine (corners_c _ _ _ _ _).mono ?_; rintro e w3 ⟨rfl, hb3⟩; obtain ⟨hc3, hf3, hz3⟩ := bcell hb3; try simp only [World.size_alloc, World.size_setCell] at hz3))
          have p0_3 : w3.cell? ⟨u1.heap.size, 0, none⟩ = some (.int .i64 (cor (rBx bs f.a) i).x) := by go_simp
          have p1_3 : w3.cell? ⟨u1.heap.size, 1, none⟩ = some (.int .i64 (cor (rBx bs f.a) i).y) := by go_simp
          have r0_3 : w3.cell? ⟨u2.heap.size, 0, none⟩ = some (.int .i64 (cor (rBx bs f.b) j).x) := by go_simp
          have r1_3 : w3.cell? ⟨u2.heap.size, 1, none⟩ = some (.int .i64 (cor (rBx bs f.b) j).y) := by go_simp
          have TB : TV w w2 (w.heap.size + 1) w3 (T3 (rBx bs f.a) (rBx bs f.b) (rBx bs f.c) i j 0) := HB.out.below (by repeat (first | (with_reducible exact Below.refl _ _) | (with_reducible exact HB.out) | (with_reducible assumption) | (with_reducible apply below_alloc) | (with_reducible apply below_drew) | (with_reducible apply pw_below_drewN) | (with_reducible refine bstep' ?_ (by assumption)) | ((with_reducible refine Below.setCell ?_ ?_ _); rotate_left; (first | (dsimp only; omega) | (simp; done) | (simp; omega) | omega))))
          have TB3 := Aside0.mk TB
          have T3' := TB.again
          have hlr3 : w.heap.size < w3.heap.size := by omega
          have hlu3 : u1.heap.size < w3.heap.size := by omega
          have hlv3 : u2.heap.size < w3.heap.size := by omega
          have hnv : u2.heap.size ≠ w.heap.size + 1 := by omega
          clear TB hc3 hf3 hb3 q1 q2 q3 q4 ix
          go_loopg [4, 44] 4 (fun k first cnt wr => ∃ m : Nat, m + k = 4 ∧ cnt = .int .i64 m ∧ first = .bool (T3 (rBx bs f.a) (rBx bs f.b) (rBx bs f.c) i j m).isEmpty ∧ TV w w3 (w.heap.size + 1) wr (T3 (rBx bs f.a) (rBx bs f.b) (rBx bs f.c) i j m))
          case atStart => exact ⟨0, rfl, rfl, rfl, T3'⟩
          case round =>
            obtain ⟨m, hm, rfl, rfl, TA⟩ := hrel
            obtain ⟨u3, rfl⟩ : ∃ u, u = wr := ⟨_, rfl⟩
            obtain ⟨g3, rfl⟩ : ∃ g, g = gk := ⟨_, rfl⟩
            obtain ⟨q1, q2, q3, q4, q5, q6', q7'⟩ := TA
            have HC := Aside0.mk (show TV w w3 (w.heap.size + 1) u3 (T3 (rBx bs f.a) (rBx bs f.b) (rBx bs f.c) i j m) from ⟨q1, q2, q3, q4, q5, q6', q7'⟩)
            by_cases hlt3 : m < 4
            · have ix := index_cor (rBx bs f.c) m hlt3
              obtain ⟨i1, i2, i3, i4⟩ := cor_in ba i
              obtain ⟨j1, j2, j3, j4⟩ := cor_in bb j
              obtain ⟨m1, m2, m3, m4⟩ := cor_in bc m
              have P1 := prod_in (u := (cor (rBx bs f.b) j).x - (cor (rBx bs f.a) i).x) (v := (cor (rBx bs f.c) m).y - (cor (rBx bs f.a) i).y) (by omega) (by omega)
              have P2 := prod_in (u := (cor (rBx bs f.b) j).y - (cor (rBx bs f.a) i).y) (v := (cor (rBx bs f.c) m).x - (cor (rBx bs f.a) i).x) (by omega) (by omega)
              have hs1 : u1.heap.size < u3.heap.size := by omega
              have hs2 : u2.heap.size < u3.heap.size := by omega
              have hw : w.heap.size ≤ w.heap.size + 1 := by omega
              cases hE : (T3 (rBx bs f.a) (rBx bs f.b) (rBx bs f.c) i j m).isEmpty with
              | true =>
                go_wp2_with (first | (go_at_call 107; refine (turn_c _ _ _ _ _ _ _ (by omega) (by omega) (by omega) (by omega) (by omega) (by omega) (by omega) (by omega)).mono ?_; rintro e w4 ⟨rfl, hb4⟩; have T4 := Aside0.mk (HC.out.below (w2 := w4) (by repeat (first | (with_reducible exact Below.refl _ _) | (with_reducible exact HB.out) | (with_reducible assumption) | (with_reducible apply below_alloc) | (with_reducible apply below_drew) | (with_reducible apply pw_below_drewN) | (with_reducible refine bstep' ?_ (by assumption)) | ((with_reducible refine Below.setCell ?_ ?_ _); rotate_left; (first | (dsimp only; omega) | (simp; done) | (simp; omega) | omega))))); obtain ⟨hc4, hf4, hz4⟩ := bcell hb4; try simp only [World.size_alloc, World.size_setCell] at hz4; have v0 := T4.out.2.1; have v1 := T4.out.2.2.1; have v2 := T4.out.2.2.2.1))
                go_roundg (g3 - 1)
                case measure => omega
                case rel => exact ⟨m + 1, by omega, by go_num, by rw [T3_k hlt3, snoc_empty], (T4.out.set hw (M := [_]) rfl rfl).set hw (by rw [T3_k hlt3, minL_snoc, if_pos hE]; rfl) (by rw [T3_k hlt3, maxL_snoc, if_pos hE]; rfl)⟩
              | false =>
                go_wp2_with (first | (go_at_call 107; refine (turn_c _ _ _ _ _ _ _ (by omega) (by omega) (by omega) (by omega) (by omega) (by omega) (by omega) (by omega)).mono ?_; rintro e w4 ⟨rfl, hb4⟩; have T4 := Aside0.mk (HC.out.below (w2 := w4) (by repeat (first | (with_reducible exact Below.refl _ _) | (with_reducible exact HB.out) | (with_reducible assumption) | (with_reducible apply below_alloc) | (with_reducible apply below_drew) | (with_reducible apply pw_below_drewN) | (with_reducible refine bstep' ?_ (by assumption)) | ((with_reducible refine Below.setCell ?_ ?_ _); rotate_left; (first | (dsimp only; omega) | (simp; done) | (simp; omega) | omega))))); obtain ⟨hc4, hf4, hz4⟩ := bcell hb4; try simp only [World.size_alloc, World.size_setCell] at hz4; have v0 := T4.out.2.1; have v1 := T4.out.2.2.1; have v2 := T4.out.2.2.2.1))
                all_goals (go_roundg (g3 - 1); (case measure => omega); (case rel => exact ⟨m + 1, by omega, by go_num, by rw [T3_k hlt3, snoc_empty], T4.out.set hw (by rw [T3_k hlt3]; exact min_sel hE (by first | exact .inl ⟨by assumption, rfl⟩ | exact .inr ⟨by assumption, rfl⟩)) (by rw [T3_k hlt3]; exact max_sel hE (by first | exact .inl ⟨by assumption, rfl⟩ | exact .inr ⟨by assumption, rfl⟩))⟩))
            · obtain rfl : m = 4 := by omega
              go_wp2_with fail
              go_roundg (g2 - 1)
              case measure => omega
              case rel => exact ⟨j + 1, by omega, by go_num, by rw [← T3_j hlt2], by rw [← T3_j hlt2]; exact TB3.out.up HC.out⟩
        · obtain rfl : j = 4 := by omega
          go_wp2_with fail
          go_roundg (g1 - 1)
          case measure => omega
          case rel => exact ⟨i + 1, by omega, by go_num, by rw [← T3_i hlt], by rw [← T3_i hlt]; exact TB2.out.up HB.out⟩
    · obtain rfl : i = 4 := by omega
      rw [T3_4] at q2 q3
      go_wp2_with (first | (go_at_call 105; refine (valued_c f _ _ _ _).mono ?_; rintro e w2 ⟨rfl, hb2⟩))
      go_ret2
      exact ⟨rfl, (by repeat (first | (with_reducible exact Below.refl _ _) | (with_reducible exact HB.out) | (with_reducible assumption) | (with_reducible apply below_alloc) | (with_reducible apply below_drew) | (with_reducible apply pw_below_drewN) | (with_reducible refine bstep' ?_ (by assumption)) | ((with_reducible refine Below.setCell ?_ ?_ _); rotate_left; (first | (dsimp only; omega) | (simp; done) | (simp; omega) | omega))))⟩

end Go.Proofs.Ytkkimlicabbooaa

/-
  bare and fails of package search: a formed fact on valid boxes.
-/
namespace Go.Proofs.Ytkkimlicabbooaa
open Go.RowKit Go.Proofs.YtkkimlicabbooaaW.PrintWords Bs
attribute [local go_sem] Later.cell? Later.frozen?
set_option linter.unusedVariables false
set_option linter.unusedSimpArgs false

set_option maxHeartbeats 1600000 in
theorem bare_dist (f : Fct) (A : Option Addr) (n c : Nat) (bs : List Bx) (w : World) (h : kBx.C w A n bs) (ha : 0 ≤ f.a ∧ f.a < n) (hb : 0 ≤ f.b ∧ f.b < n) (ba : validB (rBx bs f.a) = true) (bb : validB (rBx bs f.b) = true) (hk : f.kind = 1) :
    Calls Try.prog 72 #[.agg #[.int .i64 f.id, .int .i64 f.kind, .bool f.no, .int .i64 f.a, .int .i64 f.b, .int .i64 f.c, .int .i64 f.span.lo, .int .i64 f.span.hi, .int .i64 f.quarter], .slice A n c] w fun e w' => e = .returned (.tuple #[.bool (bareP f bs).1, .bool (bareP f bs).2]) ∧ Below w.heap.size w w' := by
  have HV := Aside0.mk h
  have k2 : (f.kind == 2) = false := by simp [hk]
  have k3 : (f.kind == 3) = false := by simp [hk]
  have k4 : (f.kind == 4) = false := by simp [hk]
  have k5 : (f.kind == 5) = false := by simp [hk]
  have k6 : (f.kind == 6) = false := by simp [hk]
  rw [show bareP f bs = (canV f (distV f bs).lo (distV f bs).hi, mustV f (distV f bs).lo (distV f bs).hi) by simp [bareP, hk]]
  clear h hk
  go_enter Try.func72, Try.ntmps72
  go_wp2_with (first | (go_at_call 90; refine (dist_c f _ n _ bs _ (Kd.C_below HV.out (by repeat (first | (with_reducible exact Below.refl _ _) | (with_reducible exact HB.out) | (with_reducible apply below_alloc) | (with_reducible apply below_drew) | (with_reducible apply pw_below_drewN) | (with_reducible refine bstep' ?_ (by assumption)) | ((with_reducible refine Below.setCell ?_ ?_ _); rotate_left; (first | (dsimp only; omega) | (simp; done) | (simp; omega) | omega))))) ha hb ba bb).mono ?_; rintro e w1 ⟨rfl, hb1⟩))
  go_ret2
  exact ⟨rfl, (by repeat (first | (with_reducible exact Below.refl _ _) | (with_reducible exact HB.out) | (with_reducible apply below_alloc) | (with_reducible apply below_drew) | (with_reducible apply pw_below_drewN) | (with_reducible refine bstep' ?_ (by assumption)) | ((with_reducible refine Below.setCell ?_ ?_ _); rotate_left; (first | (dsimp only; omega) | (simp; done) | (simp; omega) | omega))))⟩

set_option maxHeartbeats 1600000 in
theorem bare_turn (f : Fct) (A : Option Addr) (n c : Nat) (bs : List Bx) (w : World) (h : kBx.C w A n bs) (ha : 0 ≤ f.a ∧ f.a < n) (hb : 0 ≤ f.b ∧ f.b < n) (hc : 0 ≤ f.c ∧ f.c < n) (ba : validB (rBx bs f.a) = true) (bb : validB (rBx bs f.b) = true) (bc : validB (rBx bs f.c) = true) (hk : f.kind = 2) :
    Calls Try.prog 72 #[.agg #[.int .i64 f.id, .int .i64 f.kind, .bool f.no, .int .i64 f.a, .int .i64 f.b, .int .i64 f.c, .int .i64 f.span.lo, .int .i64 f.span.hi, .int .i64 f.quarter], .slice A n c] w fun e w' => e = .returned (.tuple #[.bool (bareP f bs).1, .bool (bareP f bs).2]) ∧ Below w.heap.size w w' := by
  have HV := Aside0.mk h
  have k2 : (f.kind == 2) = true := by simp [hk]
  have k3 : (f.kind == 3) = false := by simp [hk]
  have k4 : (f.kind == 4) = false := by simp [hk]
  have k5 : (f.kind == 5) = false := by simp [hk]
  have k6 : (f.kind == 6) = false := by simp [hk]
  rw [show bareP f bs = (canV f (turnV f bs).lo (turnV f bs).hi, mustV f (turnV f bs).lo (turnV f bs).hi) by simp [bareP, hk]]
  clear h hk
  go_enter Try.func72, Try.ntmps72
  go_wp2_with (first | (go_at_call 91; refine (turnm_c f _ n _ bs _ (Kd.C_below HV.out (by repeat (first | (with_reducible exact Below.refl _ _) | (with_reducible exact HB.out) | (with_reducible apply below_alloc) | (with_reducible apply below_drew) | (with_reducible apply pw_below_drewN) | (with_reducible refine bstep' ?_ (by assumption)) | ((with_reducible refine Below.setCell ?_ ?_ _); rotate_left; (first | (dsimp only; omega) | (simp; done) | (simp; omega) | omega))))) ha hb hc ba bb bc).mono ?_; rintro e w1 ⟨rfl, hb1⟩))
  go_ret2
  exact ⟨rfl, (by repeat (first | (with_reducible exact Below.refl _ _) | (with_reducible exact HB.out) | (with_reducible apply below_alloc) | (with_reducible apply below_drew) | (with_reducible apply pw_below_drewN) | (with_reducible refine bstep' ?_ (by assumption)) | ((with_reducible refine Below.setCell ?_ ?_ _); rotate_left; (first | (dsimp only; omega) | (simp; done) | (simp; omega) | omega))))⟩

set_option maxHeartbeats 1600000 in
theorem bare_quarter (f : Fct) (A : Option Addr) (n c : Nat) (bs : List Bx) (w : World) (h : kBx.C w A n bs) (ha : 0 ≤ f.a ∧ f.a < n) (hb : 0 ≤ f.b ∧ f.b < n) (ba : validB (rBx bs f.a) = true) (bb : validB (rBx bs f.b) = true) (hk : f.kind = 3) :
    Calls Try.prog 72 #[.agg #[.int .i64 f.id, .int .i64 f.kind, .bool f.no, .int .i64 f.a, .int .i64 f.b, .int .i64 f.c, .int .i64 f.span.lo, .int .i64 f.span.hi, .int .i64 f.quarter], .slice A n c] w fun e w' => e = .returned (.tuple #[.bool (bareP f bs).1, .bool (bareP f bs).2]) ∧ Below w.heap.size w w' := by
  have HV := Aside0.mk h
  have k2 : (f.kind == 2) = false := by simp [hk]
  have k3 : (f.kind == 3) = true := by simp [hk]
  have k4 : (f.kind == 4) = false := by simp [hk]
  have k5 : (f.kind == 5) = false := by simp [hk]
  have k6 : (f.kind == 6) = false := by simp [hk]
  rw [show bareP f bs = (quarCan (quarX f bs) (amt (quarY f bs)), quarMust (quarX f bs) (amt (quarY f bs))) by simp [bareP, hk]]
  clear h hk
  go_enter Try.func72, Try.ntmps72
  go_wp2_with (first | (go_at_call 92; refine (quarter_c f _ n _ bs _ (Kd.C_below HV.out (by repeat (first | (with_reducible exact Below.refl _ _) | (with_reducible exact HB.out) | (with_reducible apply below_alloc) | (with_reducible apply below_drew) | (with_reducible apply pw_below_drewN) | (with_reducible refine bstep' ?_ (by assumption)) | ((with_reducible refine Below.setCell ?_ ?_ _); rotate_left; (first | (dsimp only; omega) | (simp; done) | (simp; omega) | omega))))) ha hb ba bb).mono ?_; rintro e w1 ⟨rfl, hb1⟩))
  go_ret2
  exact ⟨rfl, (by repeat (first | (with_reducible exact Below.refl _ _) | (with_reducible exact HB.out) | (with_reducible apply below_alloc) | (with_reducible apply below_drew) | (with_reducible apply pw_below_drewN) | (with_reducible refine bstep' ?_ (by assumption)) | ((with_reducible refine Below.setCell ?_ ?_ _); rotate_left; (first | (dsimp only; omega) | (simp; done) | (simp; omega) | omega))))⟩

set_option maxHeartbeats 1600000 in
theorem bare_near (f : Fct) (A : Option Addr) (n c : Nat) (bs : List Bx) (w : World) (h : kBx.C w A n bs) (ha : 0 ≤ f.a ∧ f.a < n) (hb : 0 ≤ f.b ∧ f.b < n) (ba : validB (rBx bs f.a) = true) (bb : validB (rBx bs f.b) = true) (hk : f.kind = 4) :
    Calls Try.prog 72 #[.agg #[.int .i64 f.id, .int .i64 f.kind, .bool f.no, .int .i64 f.a, .int .i64 f.b, .int .i64 f.c, .int .i64 f.span.lo, .int .i64 f.span.hi, .int .i64 f.quarter], .slice A n c] w fun e w' => e = .returned (.tuple #[.bool (bareP f bs).1, .bool (bareP f bs).2]) ∧ Below w.heap.size w w' := by
  have HV := Aside0.mk h
  have k2 : (f.kind == 2) = false := by simp [hk]
  have k3 : (f.kind == 3) = false := by simp [hk]
  have k4 : (f.kind == 4) = true := by simp [hk]
  have k5 : (f.kind == 5) = false := by simp [hk]
  have k6 : (f.kind == 6) = false := by simp [hk]
  rw [show bareP f bs = (nearB (amt (vecX f bs)).lo (amt (vecY f bs)).lo f.span.hi, nearB (amt (vecX f bs)).hi (amt (vecY f bs)).hi f.span.hi) by simp [bareP, hk]]
  clear h hk
  go_enter Try.func72, Try.ntmps72
  go_wp2_with (first | (go_at_call 93; refine (near_c f _ n _ bs _ (Kd.C_below HV.out (by repeat (first | (with_reducible exact Below.refl _ _) | (with_reducible exact HB.out) | (with_reducible apply below_alloc) | (with_reducible apply below_drew) | (with_reducible apply pw_below_drewN) | (with_reducible refine bstep' ?_ (by assumption)) | ((with_reducible refine Below.setCell ?_ ?_ _); rotate_left; (first | (dsimp only; omega) | (simp; done) | (simp; omega) | omega))))) ha hb ba bb).mono ?_; rintro e w1 ⟨rfl, hb1⟩))
  go_ret2
  exact ⟨rfl, (by repeat (first | (with_reducible exact Below.refl _ _) | (with_reducible exact HB.out) | (with_reducible apply below_alloc) | (with_reducible apply below_drew) | (with_reducible apply pw_below_drewN) | (with_reducible refine bstep' ?_ (by assumption)) | ((with_reducible refine Below.setCell ?_ ?_ _); rotate_left; (first | (dsimp only; omega) | (simp; done) | (simp; omega) | omega))))⟩

set_option maxHeartbeats 1600000 in
theorem bare_east (f : Fct) (A : Option Addr) (n c : Nat) (bs : List Bx) (w : World) (h : kBx.C w A n bs) (ha : 0 ≤ f.a ∧ f.a < n) (hb : 0 ≤ f.b ∧ f.b < n) (ba : validB (rBx bs f.a) = true) (bb : validB (rBx bs f.b) = true) (hk : f.kind = 5) :
    Calls Try.prog 72 #[.agg #[.int .i64 f.id, .int .i64 f.kind, .bool f.no, .int .i64 f.a, .int .i64 f.b, .int .i64 f.c, .int .i64 f.span.lo, .int .i64 f.span.hi, .int .i64 f.quarter], .slice A n c] w fun e w' => e = .returned (.tuple #[.bool (bareP f bs).1, .bool (bareP f bs).2]) ∧ Below w.heap.size w w' := by
  have HV := Aside0.mk h
  have k2 : (f.kind == 2) = false := by simp [hk]
  have k3 : (f.kind == 3) = false := by simp [hk]
  have k4 : (f.kind == 4) = false := by simp [hk]
  have k5 : (f.kind == 5) = true := by simp [hk]
  have k6 : (f.kind == 6) = false := by simp [hk]
  rw [show bareP f bs = (canV f (vecX f bs).lo (vecX f bs).hi, mustV f (vecX f bs).lo (vecX f bs).hi) by simp [bareP, hk]]
  clear h hk
  go_enter Try.func72, Try.ntmps72
  go_wp2_with (first | (go_at_call 94; refine (east_c f _ n _ bs _ (Kd.C_below HV.out (by repeat (first | (with_reducible exact Below.refl _ _) | (with_reducible exact HB.out) | (with_reducible apply below_alloc) | (with_reducible apply below_drew) | (with_reducible apply pw_below_drewN) | (with_reducible refine bstep' ?_ (by assumption)) | ((with_reducible refine Below.setCell ?_ ?_ _); rotate_left; (first | (dsimp only; omega) | (simp; done) | (simp; omega) | omega))))) ha hb ba bb).mono ?_; rintro e w1 ⟨rfl, hb1⟩))
  go_ret2
  exact ⟨rfl, (by repeat (first | (with_reducible exact Below.refl _ _) | (with_reducible exact HB.out) | (with_reducible apply below_alloc) | (with_reducible apply below_drew) | (with_reducible apply pw_below_drewN) | (with_reducible refine bstep' ?_ (by assumption)) | ((with_reducible refine Below.setCell ?_ ?_ _); rotate_left; (first | (dsimp only; omega) | (simp; done) | (simp; omega) | omega))))⟩

set_option maxHeartbeats 1600000 in
theorem bare_north (f : Fct) (A : Option Addr) (n c : Nat) (bs : List Bx) (w : World) (h : kBx.C w A n bs) (ha : 0 ≤ f.a ∧ f.a < n) (hb : 0 ≤ f.b ∧ f.b < n) (ba : validB (rBx bs f.a) = true) (bb : validB (rBx bs f.b) = true) (hk : f.kind = 6) :
    Calls Try.prog 72 #[.agg #[.int .i64 f.id, .int .i64 f.kind, .bool f.no, .int .i64 f.a, .int .i64 f.b, .int .i64 f.c, .int .i64 f.span.lo, .int .i64 f.span.hi, .int .i64 f.quarter], .slice A n c] w fun e w' => e = .returned (.tuple #[.bool (bareP f bs).1, .bool (bareP f bs).2]) ∧ Below w.heap.size w w' := by
  have HV := Aside0.mk h
  have k2 : (f.kind == 2) = false := by simp [hk]
  have k3 : (f.kind == 3) = false := by simp [hk]
  have k4 : (f.kind == 4) = false := by simp [hk]
  have k5 : (f.kind == 5) = false := by simp [hk]
  have k6 : (f.kind == 6) = true := by simp [hk]
  rw [show bareP f bs = (canV f (vecY f bs).lo (vecY f bs).hi, mustV f (vecY f bs).lo (vecY f bs).hi) by simp [bareP, hk]]
  clear h hk
  go_enter Try.func72, Try.ntmps72
  go_wp2_with (first | (go_at_call 95; refine (north_c f _ n _ bs _ (Kd.C_below HV.out (by repeat (first | (with_reducible exact Below.refl _ _) | (with_reducible exact HB.out) | (with_reducible apply below_alloc) | (with_reducible apply below_drew) | (with_reducible apply pw_below_drewN) | (with_reducible refine bstep' ?_ (by assumption)) | ((with_reducible refine Below.setCell ?_ ?_ _); rotate_left; (first | (dsimp only; omega) | (simp; done) | (simp; omega) | omega))))) ha hb ba bb).mono ?_; rintro e w1 ⟨rfl, hb1⟩))
  go_ret2
  exact ⟨rfl, (by repeat (first | (with_reducible exact Below.refl _ _) | (with_reducible exact HB.out) | (with_reducible apply below_alloc) | (with_reducible apply below_drew) | (with_reducible apply pw_below_drewN) | (with_reducible refine bstep' ?_ (by assumption)) | ((with_reducible refine Below.setCell ?_ ?_ _); rotate_left; (first | (dsimp only; omega) | (simp; done) | (simp; omega) | omega))))⟩

theorem formed_in {f : Fct} {n : Nat} (h : formedB f n = true) : (0 ≤ f.a ∧ f.a < n) ∧ (0 ≤ f.b ∧ f.b < n) ∧ f.a ≠ f.b ∧ (f.kind = 2 → 0 ≤ f.c ∧ f.c < n ∧ f.c ≠ f.a ∧ f.c ≠ f.b) ∧ 1 ≤ f.kind ∧ f.kind ≤ 6 := by
  simp only [formedB, withinB, Bool.and_eq_true, decide_eq_true_eq, Bool.not_eq_true', beq_eq_false_iff_ne] at h
  obtain ⟨h1, h2, h3, h4, h5, h6⟩ := h
  refine ⟨by omega, by omega, h4, fun hk => ?_, ?_⟩
  · rw [if_pos hk] at h6
    simp only [Bool.and_eq_true, decide_eq_true_eq, Bool.not_eq_true', beq_eq_false_iff_ne] at h6
    exact ⟨by omega, by omega, h6.2.1, h6.2.2.1⟩
  · split at h6
    · omega
    · simp only [Bool.and_eq_true] at h6
      obtain ⟨_, h6⟩ := h6
      split at h6
      · omega
      · split at h6
        · omega
        · split at h6
          · omega
          · cases h6
/-- Valid boxes. -/
def AllValid (bs : List Bx) : Prop := ∀ i : Int, 0 ≤ i → i < bs.length → validB (rBx bs i) = true

theorem bare_c (f : Fct) (A : Option Addr) (n c : Nat) (bs : List Bx) (w : World) (h : kBx.C w A n bs) (hf : formedB f n = true) (hv : AllValid bs) :
    Calls Try.prog 72 #[.agg #[.int .i64 f.id, .int .i64 f.kind, .bool f.no, .int .i64 f.a, .int .i64 f.b, .int .i64 f.c, .int .i64 f.span.lo, .int .i64 f.span.hi, .int .i64 f.quarter], .slice A n c] w fun e w' => e = .returned (.tuple #[.bool (bareP f bs).1, .bool (bareP f bs).2]) ∧ Below w.heap.size w w' := by
  obtain ⟨ha, hb, _, hc, hk⟩ := formed_in hf
  have hl := h.1
  have ba := hv f.a ha.1 (by omega)
  have bb := hv f.b hb.1 (by omega)
  by_cases e1 : f.kind = 1
  · exact bare_dist f A n c bs w h ha hb ba bb e1
  by_cases e2 : f.kind = 2
  · exact bare_turn f A n c bs w h ha hb ⟨(hc e2).1, (hc e2).2.1⟩ ba bb (hv f.c (hc e2).1 (by have := hc e2; omega)) e2
  by_cases e3 : f.kind = 3
  · exact bare_quarter f A n c bs w h ha hb ba bb e3
  by_cases e4 : f.kind = 4
  · exact bare_near f A n c bs w h ha hb ba bb e4
  by_cases e5 : f.kind = 5
  · exact bare_east f A n c bs w h ha hb ba bb e5
  · exact bare_north f A n c bs w h ha hb ba bb (by omega)

set_option maxHeartbeats 400000 in
theorem fails_c (f : Fct) (A : Option Addr) (n c : Nat) (bs : List Bx) (w : World) (h : kBx.C w A n bs) (hf : formedB f n = true) (hv : AllValid bs) :
    Calls Try.prog 54 #[.agg #[.int .i64 f.id, .int .i64 f.kind, .bool f.no, .int .i64 f.a, .int .i64 f.b, .int .i64 f.c, .int .i64 f.span.lo, .int .i64 f.span.hi, .int .i64 f.quarter], .slice A n c] w fun e w' => e = .returned (.bool (failsP f bs)) ∧ Below w.heap.size w w' := by
  have HV := Aside0.mk h
  have HF := Aside0.mk hf
  have HW := Aside0.mk hv
  clear h hf hv
  go_enter Try.func54, Try.ntmps54
  go_wp2_with (first | (go_at_call 72; refine (bare_c f _ n _ bs _ (Kd.C_below HV.out (by repeat (first | (with_reducible exact Below.refl _ _) | (with_reducible exact HB.out) | (with_reducible apply below_alloc) | (with_reducible apply below_drew) | (with_reducible apply pw_below_drewN) | (with_reducible refine bstep' ?_ (by assumption)) | ((with_reducible refine Below.setCell ?_ ?_ _); rotate_left; (first | (dsimp only; omega) | (simp; done) | (simp; omega) | omega))))) HF.out HW.out).mono ?_; rintro e w1 ⟨rfl, hb1⟩; obtain ⟨hc1, hf1, hz1⟩ := bcell hb1; try simp only [World.size_alloc, World.size_setCell] at hz1; have hl1 : w.heap.size < w1.heap.size := by omega))
  all_goals (go_ret; exact ⟨by simp [failsP, *], (by repeat (first | (with_reducible exact Below.refl _ _) | (with_reducible exact HB.out) | (with_reducible apply below_alloc) | (with_reducible apply below_drew) | (with_reducible apply pw_below_drewN) | (with_reducible refine bstep' ?_ (by assumption)) | ((with_reducible refine Below.setCell ?_ ?_ _); rotate_left; (first | (dsimp only; omega) | (simp; done) | (simp; omega) | omega))))⟩)

end Go.Proofs.Ytkkimlicabbooaa

/-
  slices.Clone at boxes, facts, points and ints.
-/
namespace Go.Proofs.Ytkkimlicabbooaa
open Go.RowKit Go.Proofs.YtkkimlicabbooaaW.PrintWords Bs
attribute [local go_sem] Later.cell? Later.frozen?
set_option linter.unusedVariables false
set_option linter.unusedSimpArgs false

theorem infoBx : (Try.prog.info? 42).map (fun i => (i.zero, i.size, i.bytes)) = some (some (.agg #[.int .i64 0, .int .i64 0, .int .i64 0, .int .i64 0]), 4, 32) := by kernel_rfl
theorem infoPt : (Try.prog.info? 49).map (fun i => (i.zero, i.size, i.bytes)) = some (some (.agg #[.int .i64 0, .int .i64 0]), 2, 16) := by kernel_rfl
theorem infoFct : (Try.prog.info? 33).map (fun i => (i.zero, i.size, i.bytes)) = some (some (.agg #[.int .i64 0, .int .i64 0, .bool false, .int .i64 0, .int .i64 0, .int .i64 0, .int .i64 0, .int .i64 0, .int .i64 0]), 9, 72) := by kernel_rfl
theorem infoInt : (Try.prog.info? 3).map (fun i => (i.zero, i.size, i.bytes)) = some (some (.int .i64 0), 1, 8) := by kernel_rfl

theorem R_empty {α : Type} (d : Kd α) (e : Nat) (w : World) : d.R e (w.alloc (.cells #[] e)) w.heap.size (fun _ => True) (.slice (some ⟨w.heap.size, 0, none⟩) 0 0) [] :=
  ⟨fun _ _ => trivial, [], by
    have h2 := World.ownsRow_lit (base := w.heap.size) (e := e) (size := d.sz) w #[] 0 (Nat.le_refl _) (by decide) (by simp)
    simpa using h2, Reps.none _ _⟩
theorem rows_of {α : Type} {d : Kd α} {w w1 : World} {A : Option Addr} {n : Nat} {xs : List α} (h : d.C w A n xs) (hb : Below w.heap.size w w1) : ReadsRow (d.K w1) d.sz w1 A n xs := Kd.C_below h hb

set_option maxHeartbeats 800000 in
theorem cloneBx_c (A : Option Addr) (n c : Nat) (xs : List Bx) (w : World) (h : kBx.C w A n xs) (hn : n * 32 ≤ 140737488355328) :
    Calls Try.prog 57 #[.slice A n c] w fun e w' => ∃ v, e = .returned v ∧ kBx.R 42 w' w.heap.size (fun _ => True) v xs ∧ Below w.heap.size w w' := by
  have HV := Aside0.mk h
  have hl := h.1
  have heq := fun (w : World) (A : Option Addr) => Lib.run_eql_slice_nil (P := Try.prog) w 22 42 A n c 0 0 Try.underlying22
  cases A with
  | none =>
    have h0 : n = 0 := by
      rcases Nat.eq_zero_or_pos n with h0 | h0
      · exact h0
      · obtain ⟨_, e, _⟩ := h.2.2 h0
        cases e
    have hx : xs = [] := List.eq_nil_of_length_eq_zero (by omega)
    subst hx h0
    clear h hl
    go_enter Try.func57, Try.ntmps57
    go_wp2_with fail
    go_ret
    exact ⟨_, rfl, Kd.R_nil _ _ _ _ _, (by repeat (first | (with_reducible exact Below.refl _ _) | (with_reducible exact HB.out) | (with_reducible apply below_alloc) | (with_reducible apply below_drew) | (with_reducible apply pw_below_drewN) | (with_reducible refine bstep' ?_ (by assumption)) | ((with_reducible refine Below.setCell ?_ ?_ _); rotate_left; (first | (dsimp only; omega) | (simp; done) | (simp; omega) | omega))))⟩
  | some ad =>
    clear h
    go_enter Try.func57, Try.ntmps57
    go_wp2_with (first | (at_builtin; refine Kd.R_append_rows kBx (Rr := kBx.K (w.alloc (.cells #[] 42))) (w0 := w) w.heap.size rfl (.tmp 5) (.tmp 6) 22 42 (.agg #[.int .i64 0, .int .i64 0, .int .i64 0, .int .i64 0]) 32 rfl Try.underlying22 infoBx rfl (by decide) (by omega) (.slice (some ⟨w.heap.size, 0, none⟩) 0 0) [] xs (some ad) n c (fun _ => True) (fun _ => False) rfl rfl (R_empty kBx _ _) (rows_of HV.out (by repeat (first | (with_reducible exact Below.refl _ _) | (with_reducible exact HB.out) | (with_reducible apply below_alloc) | (with_reducible apply below_drew) | (with_reducible apply pw_below_drewN) | (with_reducible refine bstep' ?_ (by assumption)) | ((with_reducible refine Below.setCell ?_ ?_ _); rotate_left; (first | (dsimp only; omega) | (simp; done) | (simp; omega) | omega))))) (fun _ _ h => h) (fun _ h => h.elim) (fun _ _ => trivial) (by repeat (first | (with_reducible exact Below.refl _ _) | (with_reducible exact HB.out) | (with_reducible apply below_alloc) | (with_reducible apply below_drew) | (with_reducible apply pw_below_drewN) | (with_reducible refine bstep' ?_ (by assumption)) | ((with_reducible refine Below.setCell ?_ ?_ _); rotate_left; (first | (dsimp only; omega) | (simp; done) | (simp; omega) | omega)))) (by simp) (by simp; omega) ?_; intro v1 w1 hv1 hb1 _ _))
    go_ret
    exact ⟨v1, rfl, by simpa using hv1, hb1⟩

set_option maxHeartbeats 800000 in
theorem clonePt_c (A : Option Addr) (n c : Nat) (xs : List Pt) (w : World) (h : kPt.C w A n xs) (hn : n * 16 ≤ 140737488355328) :
    Calls Try.prog 76 #[.slice A n c] w fun e w' => ∃ v, e = .returned v ∧ kPt.R 49 w' w.heap.size (fun _ => True) v xs ∧ Below w.heap.size w w' := by
  have HV := Aside0.mk h
  have hl := h.1
  have heq := fun (w : World) (A : Option Addr) => Lib.run_eql_slice_nil (P := Try.prog) w 57 49 A n c 0 0 Try.underlying57
  cases A with
  | none =>
    have h0 : n = 0 := by
      rcases Nat.eq_zero_or_pos n with h0 | h0
      · exact h0
      · obtain ⟨_, e, _⟩ := h.2.2 h0
        cases e
    have hx : xs = [] := List.eq_nil_of_length_eq_zero (by omega)
    subst hx h0
    clear h hl
    go_enter Try.func76, Try.ntmps76
    go_wp2_with fail
    go_ret
    exact ⟨_, rfl, Kd.R_nil _ _ _ _ _, (by repeat (first | (with_reducible exact Below.refl _ _) | (with_reducible exact HB.out) | (with_reducible apply below_alloc) | (with_reducible apply below_drew) | (with_reducible apply pw_below_drewN) | (with_reducible refine bstep' ?_ (by assumption)) | ((with_reducible refine Below.setCell ?_ ?_ _); rotate_left; (first | (dsimp only; omega) | (simp; done) | (simp; omega) | omega))))⟩
  | some ad =>
    clear h
    go_enter Try.func76, Try.ntmps76
    go_wp2_with (first | (at_builtin; refine Kd.R_append_rows kPt (Rr := kPt.K (w.alloc (.cells #[] 49))) (w0 := w) w.heap.size rfl (.tmp 5) (.tmp 6) 57 49 (.agg #[.int .i64 0, .int .i64 0]) 16 rfl Try.underlying57 infoPt rfl (by decide) (by omega) (.slice (some ⟨w.heap.size, 0, none⟩) 0 0) [] xs (some ad) n c (fun _ => True) (fun _ => False) rfl rfl (R_empty kPt _ _) (rows_of HV.out (by repeat (first | (with_reducible exact Below.refl _ _) | (with_reducible exact HB.out) | (with_reducible apply below_alloc) | (with_reducible apply below_drew) | (with_reducible apply pw_below_drewN) | (with_reducible refine bstep' ?_ (by assumption)) | ((with_reducible refine Below.setCell ?_ ?_ _); rotate_left; (first | (dsimp only; omega) | (simp; done) | (simp; omega) | omega))))) (fun _ _ h => h) (fun _ h => h.elim) (fun _ _ => trivial) (by repeat (first | (with_reducible exact Below.refl _ _) | (with_reducible exact HB.out) | (with_reducible apply below_alloc) | (with_reducible apply below_drew) | (with_reducible apply pw_below_drewN) | (with_reducible refine bstep' ?_ (by assumption)) | ((with_reducible refine Below.setCell ?_ ?_ _); rotate_left; (first | (dsimp only; omega) | (simp; done) | (simp; omega) | omega)))) (by simp) (by simp; omega) ?_; intro v1 w1 hv1 hb1 _ _))
    go_ret
    exact ⟨v1, rfl, by simpa using hv1, hb1⟩

set_option maxHeartbeats 800000 in
theorem cloneFct_c (A : Option Addr) (n c : Nat) (xs : List Fct) (w : World) (h : kFct.C w A n xs) (hn : n * 72 ≤ 140737488355328) :
    Calls Try.prog 67 #[.slice A n c] w fun e w' => ∃ v, e = .returned v ∧ kFct.R 33 w' w.heap.size (fun _ => True) v xs ∧ Below w.heap.size w w' := by
  have HV := Aside0.mk h
  have hl := h.1
  have heq := fun (w : World) (A : Option Addr) => Lib.run_eql_slice_nil (P := Try.prog) w 23 33 A n c 0 0 Try.underlying23
  cases A with
  | none =>
    have h0 : n = 0 := by
      rcases Nat.eq_zero_or_pos n with h0 | h0
      · exact h0
      · obtain ⟨_, e, _⟩ := h.2.2 h0
        cases e
    have hx : xs = [] := List.eq_nil_of_length_eq_zero (by omega)
    subst hx h0
    clear h hl
    go_enter Try.func67, Try.ntmps67
    go_wp2_with fail
    go_ret
    exact ⟨_, rfl, Kd.R_nil _ _ _ _ _, (by repeat (first | (with_reducible exact Below.refl _ _) | (with_reducible exact HB.out) | (with_reducible apply below_alloc) | (with_reducible apply below_drew) | (with_reducible apply pw_below_drewN) | (with_reducible refine bstep' ?_ (by assumption)) | ((with_reducible refine Below.setCell ?_ ?_ _); rotate_left; (first | (dsimp only; omega) | (simp; done) | (simp; omega) | omega))))⟩
  | some ad =>
    clear h
    go_enter Try.func67, Try.ntmps67
    go_wp2_with (first | (at_builtin; refine Kd.R_append_rows kFct (Rr := kFct.K (w.alloc (.cells #[] 33))) (w0 := w) w.heap.size rfl (.tmp 5) (.tmp 6) 23 33 (.agg #[.int .i64 0, .int .i64 0, .bool false, .int .i64 0, .int .i64 0, .int .i64 0, .int .i64 0, .int .i64 0, .int .i64 0]) 72 rfl Try.underlying23 infoFct rfl (by decide) (by omega) (.slice (some ⟨w.heap.size, 0, none⟩) 0 0) [] xs (some ad) n c (fun _ => True) (fun _ => False) rfl rfl (R_empty kFct _ _) (rows_of HV.out (by repeat (first | (with_reducible exact Below.refl _ _) | (with_reducible exact HB.out) | (with_reducible apply below_alloc) | (with_reducible apply below_drew) | (with_reducible apply pw_below_drewN) | (with_reducible refine bstep' ?_ (by assumption)) | ((with_reducible refine Below.setCell ?_ ?_ _); rotate_left; (first | (dsimp only; omega) | (simp; done) | (simp; omega) | omega))))) (fun _ _ h => h) (fun _ h => h.elim) (fun _ _ => trivial) (by repeat (first | (with_reducible exact Below.refl _ _) | (with_reducible exact HB.out) | (with_reducible apply below_alloc) | (with_reducible apply below_drew) | (with_reducible apply pw_below_drewN) | (with_reducible refine bstep' ?_ (by assumption)) | ((with_reducible refine Below.setCell ?_ ?_ _); rotate_left; (first | (dsimp only; omega) | (simp; done) | (simp; omega) | omega)))) (by simp) (by simp; omega) ?_; intro v1 w1 hv1 hb1 _ _))
    go_ret
    exact ⟨v1, rfl, by simpa using hv1, hb1⟩

set_option maxHeartbeats 800000 in
theorem cloneInt_c (A : Option Addr) (n c : Nat) (xs : List Int) (w : World) (h : kInt.C w A n xs) (hn : n * 8 ≤ 140737488355328) :
    Calls Try.prog 43 #[.slice A n c] w fun e w' => ∃ v, e = .returned v ∧ kInt.R 3 w' w.heap.size (fun _ => True) v xs ∧ Below w.heap.size w w' := by
  have HV := Aside0.mk h
  have hl := h.1
  have heq := fun (w : World) (A : Option Addr) => Lib.run_eql_slice_nil (P := Try.prog) w 52 3 A n c 0 0 Try.underlying52
  cases A with
  | none =>
    have h0 : n = 0 := by
      rcases Nat.eq_zero_or_pos n with h0 | h0
      · exact h0
      · obtain ⟨_, e, _⟩ := h.2.2 h0
        cases e
    have hx : xs = [] := List.eq_nil_of_length_eq_zero (by omega)
    subst hx h0
    clear h hl
    go_enter Try.func43, Try.ntmps43
    go_wp2_with fail
    go_ret
    exact ⟨_, rfl, Kd.R_nil _ _ _ _ _, (by repeat (first | (with_reducible exact Below.refl _ _) | (with_reducible exact HB.out) | (with_reducible apply below_alloc) | (with_reducible apply below_drew) | (with_reducible apply pw_below_drewN) | (with_reducible refine bstep' ?_ (by assumption)) | ((with_reducible refine Below.setCell ?_ ?_ _); rotate_left; (first | (dsimp only; omega) | (simp; done) | (simp; omega) | omega))))⟩
  | some ad =>
    clear h
    go_enter Try.func43, Try.ntmps43
    go_wp2_with (first | (at_builtin; refine Kd.R_append_rows kInt (Rr := kInt.K (w.alloc (.cells #[] 3))) (w0 := w) w.heap.size rfl (.tmp 5) (.tmp 6) 52 3 (.int .i64 0) 8 rfl Try.underlying52 infoInt rfl (by decide) (by omega) (.slice (some ⟨w.heap.size, 0, none⟩) 0 0) [] xs (some ad) n c (fun _ => True) (fun _ => False) rfl rfl (R_empty kInt _ _) (rows_of HV.out (by repeat (first | (with_reducible exact Below.refl _ _) | (with_reducible exact HB.out) | (with_reducible apply below_alloc) | (with_reducible apply below_drew) | (with_reducible apply pw_below_drewN) | (with_reducible refine bstep' ?_ (by assumption)) | ((with_reducible refine Below.setCell ?_ ?_ _); rotate_left; (first | (dsimp only; omega) | (simp; done) | (simp; omega) | omega))))) (fun _ _ h => h) (fun _ h => h.elim) (fun _ _ => trivial) (by repeat (first | (with_reducible exact Below.refl _ _) | (with_reducible exact HB.out) | (with_reducible apply below_alloc) | (with_reducible apply below_drew) | (with_reducible apply pw_below_drewN) | (with_reducible refine bstep' ?_ (by assumption)) | ((with_reducible refine Below.setCell ?_ ?_ _); rotate_left; (first | (dsimp only; omega) | (simp; done) | (simp; omega) | omega)))) (by simp) (by simp; omega) ?_; intro v1 w1 hv1 hb1 _ _))
    go_ret
    exact ⟨v1, rfl, by simpa using hv1, hb1⟩

end Go.Proofs.Ytkkimlicabbooaa

/-
  Small functions of package search on lists: names, at, alone, all, about.
-/
namespace Go.Proofs.Ytkkimlicabbooaa
open Go.RowKit Go.Proofs.YtkkimlicabbooaaW.PrintWords Bs
attribute [local go_sem] Later.cell? Later.frozen?
set_option linter.unusedVariables false
set_option linter.unusedSimpArgs false

theorem at_Int {w : World} {A : Option Addr} {n : Nat} {xs : List Int} (h : kInt.C w A n xs) (i : Int) (h0 : 0 ≤ i) (h1 : i < n) : ∃ b off, A = some ⟨b, off, none⟩ ∧ b < w.heap.size ∧ w.cell? ⟨b, off + i.toNat, none⟩ = some (.int .i64 (rInt xs i)) := by
  obtain ⟨b, off, e, hb, hr⟩ := row_at (d := kInt) (by decide) h (by omega)
  obtain ⟨c, _, hK, hc⟩ := hr i.toNat (rInt xs i) (rd_some (by have := h.1; omega))
  obtain rfl := (show c = [.int .i64 (rInt xs i)] from hK)
  exact ⟨b, off, e, hb, by have := hc 0 _ rfl; simpa [kInt, Kd.int, Kd.scalar] using this⟩

set_option maxHeartbeats 800000 in
theorem names_c (f : Fct) (p : Int) (w : World) :
    Calls Try.prog 73 #[.agg #[.int .i64 f.id, .int .i64 f.kind, .bool f.no, .int .i64 f.a, .int .i64 f.b, .int .i64 f.c, .int .i64 f.span.lo, .int .i64 f.span.hi, .int .i64 f.quarter], .int .i64 p] w fun e w' => e = .returned (.bool (namesB f p)) ∧ Below w.heap.size w w' := by
  by_cases hk : f.kind = 2
  · have k2 : (f.kind == 2) = true := by simp [hk]
    have HN := Aside0.mk (show namesB f p = (f.a == p || f.b == p || f.c == p) by simp [namesB, k2, Bool.or_assoc])
    clear hk
    go_enter Try.func73, Try.ntmps73
    go_wp2
    all_goals (go_ret; refine ⟨?_, (by repeat (first | (with_reducible exact Below.refl _ _) | (with_reducible exact HB.out) | (with_reducible apply below_alloc) | (with_reducible apply below_drew) | (with_reducible apply pw_below_drewN) | (with_reducible refine bstep' ?_ (by assumption)) | ((with_reducible refine Below.setCell ?_ ?_ _); rotate_left; (first | (dsimp only; omega) | (simp; done) | (simp; omega) | omega))))⟩; rw [HN.out]; simp_all)
  · have k2 : (f.kind == 2) = false := by simp [hk]
    have HN := Aside0.mk (show namesB f p = (f.a == p || f.b == p) by simp [namesB, k2])
    clear hk
    go_enter Try.func73, Try.ntmps73
    go_wp2
    all_goals (go_ret; refine ⟨?_, (by repeat (first | (with_reducible exact Below.refl _ _) | (with_reducible exact HB.out) | (with_reducible apply below_alloc) | (with_reducible apply below_drew) | (with_reducible apply pw_below_drewN) | (with_reducible refine bstep' ?_ (by assumption)) | ((with_reducible refine Below.setCell ?_ ?_ _); rotate_left; (first | (dsimp only; omega) | (simp; done) | (simp; omega) | omega))))⟩; rw [HN.out]; simp_all)

set_option maxHeartbeats 400000 in
theorem at_c (p : Pt) (w : World) :
    Calls Try.prog 71 #[.agg #[.int .i64 p.x, .int .i64 p.y]] w fun e w' => e = .returned (.agg #[.int .i64 (atP p).x.lo, .int .i64 (atP p).x.hi, .int .i64 (atP p).y.lo, .int .i64 (atP p).y.hi]) ∧ Below w.heap.size w w' := by
  go_enter Try.func71, Try.ntmps71
  go_wp2
  exact bodyPost_ret (v := .agg #[.int .i64 p.x, .int .i64 p.x, .int .i64 p.y, .int .i64 p.y]) (by simp [results, Try.results71, go_sem]) rfl ⟨rfl, (by repeat (first | (with_reducible exact Below.refl _ _) | (with_reducible exact HB.out) | (with_reducible apply below_alloc) | (with_reducible apply below_drew) | (with_reducible apply pw_below_drewN) | (with_reducible refine bstep' ?_ (by assumption)) | ((with_reducible refine Below.setCell ?_ ?_ _); rotate_left; (first | (dsimp only; omega) | (simp; done) | (simp; omega) | omega))))⟩

set_option maxHeartbeats 800000 in
theorem alone_c (A : Option Addr) (n c : Nat) (ps : List Pt) (w : World) (h : kPt.C w A n ps) (hn : n * 32 ≤ 140737488355328) :
    Calls Try.prog 53 #[.slice A n c] w fun e w' => ∃ v, e = .returned v ∧ kBx.R 42 w' w.heap.size (fun _ => True) v (aloneP ps) ∧ Below w.heap.size w w' := by
  have HV := Aside0.mk h
  have hl := h.1
  clear h
  go_enter Try.func53, Try.ntmps53
  go_wp2_with fail
  go_loopg [3, 8] n (fun m v cnt wr => ∃ k : Nat, k + m = n ∧ cnt = .int .i64 k ∧ Aside0 (kBx.R 42 wr w.heap.size (fun _ => True) v (aloneP (ps.take k))) ∧ Aside0 (Below w.heap.size w wr))
  case atStart => exact ⟨0, by omega, rfl, ⟨Kd.R_nil _ _ _ _ _⟩, ⟨Below.refl _ _⟩⟩
  case round =>
    obtain ⟨k, hk, rfl, HO, HB⟩ := hrel
    by_cases hlt : k < n
    · obtain ⟨b, off, rfl, hb, p0, p1⟩ := at_Pt (Kd.C_below HV.out HB.out) (k : Int) (by omega) (by omega)
      simp only [Int.toNat_natCast] at p0 p1
      have hl1 : b < wr.heap.size + 1 := by omega
      go_wp2_with (first | (go_at_call 71; refine (at_c (rPt ps (k : Int)) _).mono ?_; rintro e w1 ⟨rfl, hb1⟩) | (at_builtin; refine Kd.R_append kBx (w0 := w) w.heap.size rfl _ _ 22 42 (.agg #[.int .i64 0, .int .i64 0, .int .i64 0, .int .i64 0]) 32 rfl Try.underlying22 infoBx rfl (by decide) (by omega) u3 (aloneP (ps.take k)) (atP (rPt ps (k : Int))) (encBx (atP (rPt ps (k : Int)))) (fun _ => True) (fun _ => False) rfl rfl rfl (fun _ h => h.elim) (fun _ _ => trivial) (Kd.R_below HO.out (by repeat (first | (with_reducible exact Below.refl _ _) | (with_reducible exact HB.out) | (with_reducible assumption) | (with_reducible apply below_alloc) | (with_reducible apply below_drew) | (with_reducible apply pw_below_drewN) | (with_reducible refine bstep' ?_ (by assumption)) | ((with_reducible refine Below.setCell ?_ ?_ _); rotate_left; (first | (dsimp only; omega) | (simp; done) | (simp; omega) | omega))))) (by repeat (first | (with_reducible exact Below.refl _ _) | (with_reducible exact HB.out) | (with_reducible assumption) | (with_reducible apply below_alloc) | (with_reducible apply below_drew) | (with_reducible apply pw_below_drewN) | (with_reducible refine bstep' ?_ (by assumption)) | ((with_reducible refine Below.setCell ?_ ?_ _); rotate_left; (first | (dsimp only; omega) | (simp; done) | (simp; omega) | omega)))) ?aS ?aL ?_; (case aS => exact (Below.size (show Below w.heap.size w _ from (by repeat (first | (with_reducible exact Below.refl _ _) | (with_reducible exact HB.out) | (with_reducible assumption) | (with_reducible apply below_alloc) | (with_reducible apply below_drew) | (with_reducible apply pw_below_drewN) | (with_reducible refine bstep' ?_ (by assumption)) | ((with_reducible refine Below.setCell ?_ ?_ _); rotate_left; (first | (dsimp only; omega) | (simp; done) | (simp; omega) | omega))))))); (case aL => simp [aloneP]; omega); intro v1 w9 hv1 hb9 _ _))
      go_roundg (gk - 1)
      case measure => omega
      case rel => exact ⟨k + 1, by omega, by go_num, ⟨by rw [rPt_nat] at hv1; simpa only [aloneP, map_take_snoc atP (show k < ps.length by omega)] using hv1⟩, ⟨hb9⟩⟩
    · go_wp2_with fail
      go_ret
      have hk' : k = n := by omega
      subst hk'
      rw [List.take_of_length_le (by omega)] at HO
      exact ⟨u3, rfl, HO.out, HB.out⟩

end Go.Proofs.Ytkkimlicabbooaa

/-
  all, about and bad of package search.
-/
namespace Go.Proofs.Ytkkimlicabbooaa
open Go.RowKit Go.Proofs.YtkkimlicabbooaaW.PrintWords Bs
attribute [local go_sem] Later.cell? Later.frozen?
set_option linter.unusedVariables false
set_option linter.unusedSimpArgs false

set_option maxHeartbeats 800000 in
theorem about_c (A1 A2 : Option Addr) (n1 n2 c1 c2 : Nat) (fs : List Fct) (is : List Int) (p : Int) (w : World) (h1 : kFct.C w A1 n1 fs) (h2 : kInt.C w A2 n2 is) (hi : ∀ i ∈ is, 0 ≤ i ∧ i < n1) (hn : n2 * 8 ≤ 140737488355328) :
    Calls Try.prog 60 #[.slice A1 n1 c1, .slice A2 n2 c2, .int .i64 p] w fun e w' => ∃ v, e = .returned v ∧ kInt.R 3 w' w.heap.size (fun _ => True) v (aboutP fs p is) ∧ Below w.heap.size w w' := by
  have H1 := Aside0.mk h1
  have H2 := Aside0.mk h2
  have HI := Aside0.mk hi
  have hl := h2.1
  clear h1 h2 hi
  go_enter Try.func60, Try.ntmps60
  go_wp2_with fail
  go_loopg [7, 12] n2 (fun m v cnt wr => ∃ k : Nat, k + m = n2 ∧ cnt = .int .i64 k ∧ Aside0 (kInt.R 3 wr w.heap.size (fun _ => True) v (aboutP fs p (is.take k))) ∧ Aside0 (Below w.heap.size w wr))
  case atStart => exact ⟨0, by omega, rfl, ⟨Kd.R_nil _ _ _ _ _⟩, ⟨Below.refl _ _⟩⟩
  case round =>
    obtain ⟨k, hk, rfl, HO, HB⟩ := hrel
    by_cases hlt : k < n2
    · obtain ⟨b, off, rfl, hb, e0⟩ := at_Int (Kd.C_below H2.out HB.out) (k : Int) (by omega) (by omega)
      have hm := HI.out (rInt is (k : Int)) (by rw [rInt_nat]; exact mem_get (by omega))
      obtain ⟨hm0, hm1⟩ := hm
      obtain ⟨b', off', rfl, hb', f0, f1, f2, f3, f4, f5, f6, f7, f8⟩ := at_Fct (Kd.C_below H1.out HB.out) (rInt is (k : Int)) hm0 hm1
      simp only [Int.toNat_natCast] at e0
      have hT := Aside0.mk (take_get (l := is) (k := k) (z := 0) (by omega))
      have hlen : (aboutP fs p (is.take k)).length ≤ k := Nat.le_trans (List.length_filter_le _ _) (List.length_take_le _ _)
      cases hN : namesB (rFct fs (rInt is (k : Int))) p with
      | true =>
        have HN := Aside0.mk hN
        go_wp2_with (first | (go_at_call 73; refine (names_c (rFct fs (rInt is (k : Int))) p _).mono ?_; rintro e w1 ⟨rfl, hb1⟩) | (at_builtin; refine Kd.R_append kInt (w0 := w) w.heap.size rfl _ _ 52 3 (.int .i64 0) 8 rfl Try.underlying52 infoInt rfl (by decide) (by omega) u7 (aboutP fs p (is.take k)) (rInt is (k : Int)) [.int .i64 (rInt is (k : Int))] (fun _ => True) (fun _ => False) rfl rfl rfl (fun _ h => h.elim) (fun _ _ => trivial) (Kd.R_below HO.out (by repeat (first | (with_reducible exact Below.refl _ _) | (with_reducible exact HB.out) | (with_reducible assumption) | (with_reducible apply below_alloc) | (with_reducible apply below_drew) | (with_reducible apply pw_below_drewN) | (with_reducible refine bstep' ?_ (by assumption)) | ((with_reducible refine Below.setCell ?_ ?_ _); rotate_left; (first | (dsimp only; omega) | (simp; done) | (simp; omega) | omega))))) (by repeat (first | (with_reducible exact Below.refl _ _) | (with_reducible exact HB.out) | (with_reducible assumption) | (with_reducible apply below_alloc) | (with_reducible apply below_drew) | (with_reducible apply pw_below_drewN) | (with_reducible refine bstep' ?_ (by assumption)) | ((with_reducible refine Below.setCell ?_ ?_ _); rotate_left; (first | (dsimp only; omega) | (simp; done) | (simp; omega) | omega)))) ?aS ?aL ?_; (case aS => exact (Below.size (show Below w.heap.size w _ from (by repeat (first | (with_reducible exact Below.refl _ _) | (with_reducible exact HB.out) | (with_reducible assumption) | (with_reducible apply below_alloc) | (with_reducible apply below_drew) | (with_reducible apply pw_below_drewN) | (with_reducible refine bstep' ?_ (by assumption)) | ((with_reducible refine Below.setCell ?_ ?_ _); rotate_left; (first | (dsimp only; omega) | (simp; done) | (simp; omega) | omega))))))); (case aL => skip; omega); intro v1 w9 hv1 hb9 _ _))
        go_roundg (gk - 1)
        case measure => omega
        case rel => exact ⟨k + 1, by omega, by go_num, ⟨by rw [hT.out, ← rInt_nat, about_t HN.out]; exact hv1⟩, ⟨hb9⟩⟩
      | false =>
        have HN := Aside0.mk hN
        go_wp2_with (first | (go_at_call 73; refine (names_c (rFct fs (rInt is (k : Int))) p _).mono ?_; rintro e w1 ⟨rfl, hb1⟩))
        go_roundg (gk - 1)
        case measure => omega
        case rel => exact ⟨k + 1, by omega, by go_num, ⟨by rw [hT.out, ← rInt_nat, about_f HN.out]; exact Kd.R_below HO.out hb1⟩, ⟨(by repeat (first | (with_reducible exact Below.refl _ _) | (with_reducible exact HB.out) | (with_reducible assumption) | (with_reducible apply below_alloc) | (with_reducible apply below_drew) | (with_reducible apply pw_below_drewN) | (with_reducible refine bstep' ?_ (by assumption)) | ((with_reducible refine Below.setCell ?_ ?_ _); rotate_left; (first | (dsimp only; omega) | (simp; done) | (simp; omega) | omega))))⟩⟩
    · go_wp2_with fail
      go_ret
      have hk' : k = n2 := by omega
      subst hk'
      rw [List.take_of_length_le (by omega)] at HO
      exact ⟨u7, rfl, HO.out, HB.out⟩

set_option maxHeartbeats 800000 in
theorem all_c (A1 : Option Addr) (n1 c1 : Nat) (w : World) (hn : n1 * 8 ≤ 140737488355328) :
    Calls Try.prog 58 #[.slice A1 n1 c1] w fun e w' => ∃ v, e = .returned v ∧ kInt.R 3 w' w.heap.size (fun _ => True) v (allP n1) ∧ Below w.heap.size w w' := by
  go_enter Try.func58, Try.ntmps58
  go_wp2_with (first | ((with_reducible refine gate_dst (N := 7) rfl ?_); refine Kd.R_make kInt w.heap.size 3 rfl (N := 7) rfl 52 _ _ rfl (n1 : Int) rfl rfl Try.underlying52 (.int .i64 0) 8 infoInt rfl (by decide) (by omega) 0 (ok := fun _ => True) (okp := fun _ => True) rfl (fun _ hk => hk) trivial (by omega) (by simp; omega) (Below.refl _ _) (Nat.le_refl _) ?_; intro v1 w1 hv1 hb1 _ _; have HO1 := Aside0.mk hv1; have hs1 := Kd.R_slice hv1; clear hv1; obtain ⟨A3, c3, rfl⟩ := hs1))
  simp only [Int.toNat_natCast, List.length_replicate] at HO1 ⊢
  rcases Nat.eq_zero_or_pos n1 with h0 | h0
  · subst h0
    go_loopg [10] 0 (fun m cnt wr => ∃ k : Nat, k + m = 0 ∧ cnt = .int .i64 k ∧ Aside0 (kInt.R 3 wr w.heap.size (fun _ => True) (.slice A3 0 c3) (allP k ++ List.replicate m 0)) ∧ Aside0 (Below w.heap.size w wr))
    case atStart => exact ⟨0, by omega, rfl, ⟨by simpa [allP] using HO1.out⟩, ⟨hb1⟩⟩
    case round =>
      obtain ⟨k, hk, rfl, HO, HB⟩ := hrel
      obtain rfl : gk = 0 := by omega
      obtain rfl : k = 0 := by omega
      go_wp2_with fail
      go_ret
      exact ⟨_, rfl, by simpa using HO.out, HB.out⟩
  · obtain ⟨g, cg, eg, gb, _⟩ := Kd.R_form HO1.out (by simpa using h0)
    rw [List.length_replicate] at eg
    injection eg with eg1 _ eg2
    subst eg1 eg2
    go_loopg [10] n1 (fun m cnt wr => ∃ k : Nat, k + m = n1 ∧ cnt = .int .i64 k ∧ Aside0 (kInt.R 3 wr w.heap.size (fun _ => True) (.slice (some ⟨g, 0, none⟩) n1 c3) (allP k ++ List.replicate m 0)) ∧ Aside0 (Below w.heap.size w wr))
    case atStart => exact ⟨0, by omega, rfl, ⟨by simpa [allP] using HO1.out⟩, ⟨hb1⟩⟩
    case round =>
      obtain ⟨k, hk, rfl, HO, HB⟩ := hrel
      by_cases hlt : k < n1
      · have hlen : (allP k ++ List.replicate gk (0 : Int)).length = n1 := by rw [List.length_append, allP_length, List.length_replicate]; omega
        obtain ⟨g', _, eg, _, _, cl, HG⟩ := Kd.R_form HO.out (by omega)
        have eg' : g = g' := by (injection eg with a _ _; injection a with a; injection a)
        clear eg
        subst eg'
        obtain ⟨_, _, e1, _, hC⟩ := Kd.R_reads HO.out
        rw [hlen] at e1 hC
        have e1' := (Value.slice.injEq .. ▸ e1).1
        clear e1
        subst e1'
        obtain ⟨_, _, he, _, e0⟩ := at_Int hC (k : Int) (by omega) (by omega)
        cases he
        simp only [Int.toNat_natCast, Nat.zero_add] at e0
        have hfz := blk_frozen HG k
        have HP := Aside0.mk (Kd.R_putg (enc := Value.int .i64) (h1 := fun _ => rfl) HO.out (k : Int) (k : Int))
        clear hC HG hlen
        go_wp2_with fail
        go_roundg (gk - 1)
        case measure => omega
        case rel => exact ⟨k + 1, by omega, by go_num, ⟨by rw [← allP_set (by omega)]; have h5 := HP.out.1; simp only [Int.toNat_natCast] at h5; exact h5⟩, ⟨below_set HB.out gb⟩⟩
      · obtain rfl : gk = 0 := by omega
        obtain rfl : k = n1 := by omega
        go_wp2_with fail
        go_ret
        exact ⟨_, rfl, by simpa using HO.out, HB.out⟩

end Go.Proofs.Ytkkimlicabbooaa

/-
  bad of package search: the first of some facts that fails on boxes.
-/
namespace Go.Proofs.Ytkkimlicabbooaa
open Go.RowKit Go.Proofs.YtkkimlicabbooaaW.PrintWords Bs
attribute [local go_sem] Later.cell? Later.frozen?
set_option linter.unusedVariables false
set_option linter.unusedSimpArgs false

/-- All facts are formed for n points. -/
def AllFormed (fs : List Fct) (n : Nat) : Prop := ∀ i : Int, 0 ≤ i → i < fs.length → formedB (rFct fs i) n = true

set_option maxHeartbeats 800000 in
theorem bad_c (A1 A2 A3 : Option Addr) (n1 n2 n3 c1 c2 c3 : Nat) (fs : List Fct) (is : List Int) (bs : List Bx) (w : World) (h1 : kFct.C w A1 n1 fs) (h2 : kInt.C w A2 n2 is) (h3 : kBx.C w A3 n3 bs) (hi : ∀ i ∈ is, 0 ≤ i ∧ i < n1) (hf : AllFormed fs n3) (hv : AllValid bs) :
    Calls Try.prog 59 #[.slice A1 n1 c1, .slice A2 n2 c2, .slice A3 n3 c3] w fun e w' => e = .returned (.int .i64 (badP fs bs is)) ∧ Below w.heap.size w w' := by
  have H1 := Aside0.mk h1
  have H2 := Aside0.mk h2
  have H3 := Aside0.mk h3
  have HI := Aside0.mk hi
  have HF := Aside0.mk hf
  have HW := Aside0.mk hv
  have hl := h2.1
  have hl1 := h1.1
  have hn : n2 ≤ 9223372036854775807 := h2.2.1
  clear h1 h2 hi h3 hf hv
  go_enter Try.func59, Try.ntmps59
  go_wp2_with fail
  go_loopg [11] n2 (fun m cnt wr => ∃ k : Nat, k + m = n2 ∧ cnt = .int .i64 k ∧ Aside0 (badP fs bs is = badP fs bs (is.drop k)) ∧ Aside0 (Below w.heap.size w wr))
  case atStart => exact ⟨0, by omega, rfl, ⟨rfl⟩, ⟨Below.refl _ _⟩⟩
  case round =>
    obtain ⟨k, hk, rfl, HE, HB⟩ := hrel
    by_cases hlt : k < n2
    · obtain ⟨b, off, rfl, hb, e0⟩ := at_Int (Kd.C_below H2.out HB.out) (k : Int) (by omega) (by omega)
      have hm := HI.out (rInt is (k : Int)) (by rw [rInt_nat]; exact mem_get (by omega))
      obtain ⟨hm0, hm1⟩ := hm
      obtain ⟨b', off', rfl, hb', f0, f1, f2, f3, f4, f5, f6, f7, f8⟩ := at_Fct (Kd.C_below H1.out HB.out) (rInt is (k : Int)) hm0 hm1
      simp only [Int.toNat_natCast] at e0
      have HE2 := Aside0.mk (HE.out.trans (by rw [drop_get (z := 0) (show k < is.length by omega), ← rInt_nat]; rfl) : badP fs bs is = if failsP (rFct fs (rInt is (k : Int))) bs = true then rInt is (k : Int) else badP fs bs (is.drop (k + 1)))
      cases hN : failsP (rFct fs (rInt is (k : Int))) bs with
      | true =>
        rw [hN, if_pos rfl] at HE2
        go_wp2_with (first | (go_at_call 54; refine (fails_c (rFct fs (rInt is (k : Int))) _ n3 _ bs _ (Kd.C_below H3.out (by repeat (first | (with_reducible exact Below.refl _ _) | (with_reducible exact HB.out) | (with_reducible assumption) | (with_reducible apply below_alloc) | (with_reducible apply below_drew) | (with_reducible apply pw_below_drewN) | (with_reducible refine bstep' ?_ (by assumption)) | ((with_reducible refine Below.setCell ?_ ?_ _); rotate_left; (first | (dsimp only; omega) | (simp; done) | (simp; omega) | omega))))) (HF.out _ hm0 (by omega)) HW.out).mono ?_; rintro e w1 ⟨rfl, hb1⟩))
        go_ret
        exact ⟨by rw [HE2.out]; rfl, (by repeat (first | (with_reducible exact Below.refl _ _) | (with_reducible exact HB.out) | (with_reducible assumption) | (with_reducible apply below_alloc) | (with_reducible apply below_drew) | (with_reducible apply pw_below_drewN) | (with_reducible refine bstep' ?_ (by assumption)) | ((with_reducible refine Below.setCell ?_ ?_ _); rotate_left; (first | (dsimp only; omega) | (simp; done) | (simp; omega) | omega))))⟩
      | false =>
        rw [hN, if_neg (by simp)] at HE2
        go_wp2_with (first | (go_at_call 54; refine (fails_c (rFct fs (rInt is (k : Int))) _ n3 _ bs _ (Kd.C_below H3.out (by repeat (first | (with_reducible exact Below.refl _ _) | (with_reducible exact HB.out) | (with_reducible assumption) | (with_reducible apply below_alloc) | (with_reducible apply below_drew) | (with_reducible apply pw_below_drewN) | (with_reducible refine bstep' ?_ (by assumption)) | ((with_reducible refine Below.setCell ?_ ?_ _); rotate_left; (first | (dsimp only; omega) | (simp; done) | (simp; omega) | omega))))) (HF.out _ hm0 (by omega)) HW.out).mono ?_; rintro e w1 ⟨rfl, hb1⟩))
        go_roundg (gk - 1)
        case measure => omega
        case rel => exact ⟨k + 1, by omega, by go_num, HE2, ⟨(by repeat (first | (with_reducible exact Below.refl _ _) | (with_reducible exact HB.out) | (with_reducible assumption) | (with_reducible apply below_alloc) | (with_reducible apply below_drew) | (with_reducible apply pw_below_drewN) | (with_reducible refine bstep' ?_ (by assumption)) | ((with_reducible refine Below.setCell ?_ ?_ _); rotate_left; (first | (dsimp only; omega) | (simp; done) | (simp; omega) | omega))))⟩⟩
    · go_wp2_with fail
      go_ret
      rw [List.drop_of_length_le (by omega)] at HE
      exact ⟨by rw [HE.out]; rfl, HB.out⟩

end Go.Proofs.Ytkkimlicabbooaa

/-
  Check of package search.
-/
namespace Go.Proofs.Ytkkimlicabbooaa
open Go.RowKit Go.Proofs.YtkkimlicabbooaaW.PrintWords Bs
attribute [local go_sem] Later.cell? Later.frozen?
set_option linter.unusedVariables false
set_option linter.unusedSimpArgs false

set_option maxHeartbeats 1600000 in
theorem check_c (A1 A2 : Option Addr) (n1 n2 c1 c2 : Nat) (bs : List Bx) (fs : List Fct) (w : World) (h1 : kBx.C w A1 n1 bs) (h2 : kFct.C w A2 n2 fs) :
    Calls Try.prog 11 #[.agg #[.slice A1 n1 c1, .slice A2 n2 c2]] w fun e w' => e = .returned (.int .i64 (checkP ⟨bs, fs⟩)) ∧ Below w.heap.size w w' := by
  have H1 := Aside0.mk h1
  have H2 := Aside0.mk h2
  obtain ⟨rfl, hn1, _⟩ := h1
  obtain ⟨rfl, hn2, _⟩ := h2
  by_cases hbig : 12 < bs.length ∨ 60 < fs.length
  · have HC := Aside0.mk (check_big (p := ⟨bs, fs⟩) hbig)
    by_cases h12 : (12 : Int) < (bs.length : Int)
    · clear hbig
      go_enter Try.func11, Try.ntmps11
      go_wp2_with fail
      go_ret
      exact ⟨by rw [HC.out]; rfl, (by repeat (first | (with_reducible exact Below.refl _ _) | (with_reducible exact HB.out) | (with_reducible apply below_alloc) | (with_reducible apply below_drew) | (with_reducible apply pw_below_drewN) | (with_reducible refine bstep' ?_ (by assumption)) | ((with_reducible refine Below.setCell ?_ ?_ _); rotate_left; (first | (dsimp only; omega) | (simp; done) | (simp; omega) | omega))))⟩
    · have h60 : (60 : Int) < (fs.length : Int) := by omega
      clear hbig
      go_enter Try.func11, Try.ntmps11
      go_wp2_with fail
      go_ret
      exact ⟨by rw [HC.out]; rfl, (by repeat (first | (with_reducible exact Below.refl _ _) | (with_reducible exact HB.out) | (with_reducible apply below_alloc) | (with_reducible apply below_drew) | (with_reducible apply pw_below_drewN) | (with_reducible refine bstep' ?_ (by assumption)) | ((with_reducible refine Below.setCell ?_ ?_ _); rotate_left; (first | (dsimp only; omega) | (simp; done) | (simp; omega) | omega))))⟩
  · have HN := Aside0.mk hbig
    have h12 : ¬ (12 : Int) < (bs.length : Int) := by omega
    have h60 : ¬ (60 : Int) < (fs.length : Int) := by omega
    clear hbig
    go_enter Try.func11, Try.ntmps11
    go_wp2_with fail
    go_loopg [20] bs.length (fun m cnt wr => ∃ k : Nat, k + m = bs.length ∧ cnt = .int .i64 k ∧ Aside0 (∀ j : Nat, j < k → smallB (rBx bs j) = true) ∧ wr.cell? ⟨w.heap.size, 0, none⟩ = some (.slice A1 bs.length c1) ∧ wr.cell? ⟨w.heap.size, 1, none⟩ = some (.slice A2 fs.length c2) ∧ w.heap.size < wr.heap.size ∧ Aside0 (Below w.heap.size w wr))
    case atStart => exact ⟨0, by omega, rfl, ⟨fun j hj => absurd hj (Nat.not_lt_zero _)⟩, by go_simp, by go_simp, by simp, ⟨(by repeat (first | (with_reducible exact Below.refl _ _) | (with_reducible exact HB.out) | (with_reducible apply below_alloc) | (with_reducible apply below_drew) | (with_reducible apply pw_below_drewN) | (with_reducible refine bstep' ?_ (by assumption)) | ((with_reducible refine Below.setCell ?_ ?_ _); rotate_left; (first | (dsimp only; omega) | (simp; done) | (simp; omega) | omega))))⟩⟩
    case round =>
      obtain ⟨k, hk, rfl, HE, e0, e1, hlw, HB⟩ := hrel
      by_cases hlt : k < bs.length
      · obtain ⟨b, off, rfl, hb, b0, b1, b2, b3⟩ := at_Bx (Kd.C_below H1.out HB.out) (k : Int) (by omega) (by omega)
        simp only [Int.toNat_natCast] at b0 b1 b2 b3
        have hw1 : w.heap.size < wr.heap.size + 1 := by omega
        have hbr : b < wr.heap.size + 1 := by omega
        cases hv : validB (rBx bs (k : Int)) with
        | false =>
          have HX := Aside0.mk (check_box (p := ⟨bs, fs⟩) HN.out hlt (by simp [smallB, hv]))
          go_wp2_with (first | (go_at_call 30; refine (valid_c (rBx bs (k : Int)) _).mono ?_; rintro e w1 ⟨rfl, hb1⟩; obtain ⟨hc1, hf1, hz1⟩ := bcell hb1; (try simp only [World.size_alloc, World.size_setCell, World.size_drew] at hz1)))
          go_ret
          exact ⟨by rw [HX.out]; rfl, (by repeat (first | (with_reducible exact Below.refl _ _) | (with_reducible exact HB.out) | (with_reducible assumption) | (with_reducible apply below_alloc) | (with_reducible apply below_drew) | (with_reducible apply pw_below_drewN) | (with_reducible refine bstep' ?_ (by assumption)) | ((with_reducible refine Below.setCell ?_ ?_ _); rotate_left; (first | (dsimp only; omega) | (simp; done) | (simp; omega) | omega))))⟩
        | true =>
          obtain ⟨v1, v2, v3, v4, v5, v6, v7, v8⟩ := valid_bd hv
          by_cases hx : (rBx bs (k : Int)).x.hi - (rBx bs (k : Int)).x.lo + 1 ≤ 1024
          · by_cases hy : (rBx bs (k : Int)).y.hi - (rBx bs (k : Int)).y.lo + 1 ≤ 1024
            · have HS := Aside0.mk (small_of hv hx hy)
              go_wp2_with (first | (go_at_call 30; refine (valid_c (rBx bs (k : Int)) _).mono ?_; rintro e w1 ⟨rfl, hb1⟩; obtain ⟨hc1, hf1, hz1⟩ := bcell hb1; (try simp only [World.size_alloc, World.size_setCell, World.size_drew] at hz1); have hs1 : wr.heap.size < w1.heap.size := (by omega); have hw1 : w.heap.size < w1.heap.size := (by omega)) | (go_at_call 31; refine (size_c _ _ _ (by omega) (by omega)).mono ?_; rintro e w2 ⟨rfl, hb2⟩; obtain ⟨hc2, hf2, hz2⟩ := bcell hb2; (try simp only [World.size_alloc, World.size_setCell, World.size_drew] at hz2); have hs2 : wr.heap.size < w2.heap.size := (by omega); have hw2 : w.heap.size < w2.heap.size := (by omega)))
              go_roundg (gk - 1)
              case measure => omega
              case rel => exact ⟨k + 1, by omega, by go_num, ⟨fun j hj => by
                rcases Nat.lt_or_ge j k with h | h
                · exact HE.out j h
                · obtain rfl : j = k := by omega
                  exact HS.out⟩, by go_simp, by go_simp, by omega, ⟨(by repeat (first | (with_reducible exact Below.refl _ _) | (with_reducible exact HB.out) | (with_reducible assumption) | (with_reducible apply below_alloc) | (with_reducible apply below_drew) | (with_reducible apply pw_below_drewN) | (with_reducible refine bstep' ?_ (by assumption)) | ((with_reducible refine Below.setCell ?_ ?_ _); rotate_left; (first | (dsimp only; omega) | (simp; done) | (simp; omega) | omega))))⟩⟩
            · have HX := Aside0.mk (check_box (p := ⟨bs, fs⟩) HN.out hlt (not_small_y hy))
              go_wp2_with (first | (go_at_call 30; refine (valid_c (rBx bs (k : Int)) _).mono ?_; rintro e w1 ⟨rfl, hb1⟩; obtain ⟨hc1, hf1, hz1⟩ := bcell hb1; (try simp only [World.size_alloc, World.size_setCell, World.size_drew] at hz1); have hs1 : wr.heap.size < w1.heap.size := (by omega); have hw1 : w.heap.size < w1.heap.size := (by omega)) | (go_at_call 31; refine (size_c _ _ _ (by omega) (by omega)).mono ?_; rintro e w2 ⟨rfl, hb2⟩; obtain ⟨hc2, hf2, hz2⟩ := bcell hb2; (try simp only [World.size_alloc, World.size_setCell, World.size_drew] at hz2); have hs2 : wr.heap.size < w2.heap.size := (by omega); have hw2 : w.heap.size < w2.heap.size := (by omega)))
              go_ret
              exact ⟨by rw [HX.out]; rfl, (by repeat (first | (with_reducible exact Below.refl _ _) | (with_reducible exact HB.out) | (with_reducible assumption) | (with_reducible apply below_alloc) | (with_reducible apply below_drew) | (with_reducible apply pw_below_drewN) | (with_reducible refine bstep' ?_ (by assumption)) | ((with_reducible refine Below.setCell ?_ ?_ _); rotate_left; (first | (dsimp only; omega) | (simp; done) | (simp; omega) | omega))))⟩
          · have HX := Aside0.mk (check_box (p := ⟨bs, fs⟩) HN.out hlt (not_small_x hx))
            go_wp2_with (first | (go_at_call 30; refine (valid_c (rBx bs (k : Int)) _).mono ?_; rintro e w1 ⟨rfl, hb1⟩; obtain ⟨hc1, hf1, hz1⟩ := bcell hb1; (try simp only [World.size_alloc, World.size_setCell, World.size_drew] at hz1); have hs1 : wr.heap.size < w1.heap.size := (by omega); have hw1 : w.heap.size < w1.heap.size := (by omega)) | (go_at_call 31; refine (size_c _ _ _ (by omega) (by omega)).mono ?_; rintro e w2 ⟨rfl, hb2⟩; obtain ⟨hc2, hf2, hz2⟩ := bcell hb2; (try simp only [World.size_alloc, World.size_setCell, World.size_drew] at hz2); have hs2 : wr.heap.size < w2.heap.size := (by omega); have hw2 : w.heap.size < w2.heap.size := (by omega)))
            go_ret
            exact ⟨by rw [HX.out]; rfl, (by repeat (first | (with_reducible exact Below.refl _ _) | (with_reducible exact HB.out) | (with_reducible assumption) | (with_reducible apply below_alloc) | (with_reducible apply below_drew) | (with_reducible apply pw_below_drewN) | (with_reducible refine bstep' ?_ (by assumption)) | ((with_reducible refine Below.setCell ?_ ?_ _); rotate_left; (first | (dsimp only; omega) | (simp; done) | (simp; omega) | omega))))⟩
      · obtain rfl : k = bs.length := by omega
        go_wp2_with fail
        have HA := HE
        obtain ⟨wo, rfl⟩ : ∃ u, u = wr := ⟨_, rfl⟩
        obtain ⟨g1, rfl⟩ : ∃ u, u = gk := ⟨_, rfl⟩
        have HBo := HB
        go_loopg [43] fs.length (fun m cnt wr => ∃ k : Nat, k + m = fs.length ∧ cnt = .int .i64 k ∧ Aside0 (∀ j : Nat, j < k → formedB (rFct fs j) bs.length = true) ∧ wr.cell? ⟨w.heap.size, 0, none⟩ = some (.slice A1 bs.length c1) ∧ wr.cell? ⟨w.heap.size, 1, none⟩ = some (.slice A2 fs.length c2) ∧ w.heap.size < wr.heap.size ∧ Aside0 (Below w.heap.size w wr))
        case atStart => exact ⟨0, by omega, rfl, ⟨fun j hj => absurd hj (Nat.not_lt_zero _)⟩, e0, e1, hlw, HB⟩
        case round =>
          clear e0 e1 HB HE
          obtain ⟨k, hk, rfl, HE, e0, e1, hlw2, HB⟩ := hrel
          by_cases hlt2 : k < fs.length
          · obtain ⟨b, off, rfl, hb, f0, f1, f2, f3, f4, f5, f6, f7, f8⟩ := at_Fct (Kd.C_below H2.out HB.out) (k : Int) (by omega) (by omega)
            simp only [Int.toNat_natCast] at f0 f1 f2 f3 f4 f5 f6 f7 f8
            have hw1 : w.heap.size < wr.heap.size + 1 := by omega
            cases hv : formedB (rFct fs (k : Int)) bs.length with
            | false =>
              have HX := Aside0.mk (check_fact (p := ⟨bs, fs⟩) HN.out hlt2 hv)
              go_wp2_with (first | (go_at_call 32; refine (formed_c (rFct fs (k : Int)) _ _ (by omega) (by omega)).mono ?_; rintro e w1 ⟨rfl, hb1⟩; obtain ⟨hc1, hf1, hz1⟩ := bcell hb1; (try simp only [World.size_alloc, World.size_setCell, World.size_drew] at hz1)))
              go_ret
              exact ⟨by rw [HX.out]; rfl, (by repeat (first | (with_reducible exact Below.refl _ _) | (with_reducible exact HB.out) | (with_reducible assumption) | (with_reducible apply below_alloc) | (with_reducible apply below_drew) | (with_reducible apply pw_below_drewN) | (with_reducible refine bstep' ?_ (by assumption)) | ((with_reducible refine Below.setCell ?_ ?_ _); rotate_left; (first | (dsimp only; omega) | (simp; done) | (simp; omega) | omega))))⟩
            | true =>
              have HS := Aside0.mk hv
              go_wp2_with (first | (go_at_call 32; refine (formed_c (rFct fs (k : Int)) _ _ (by omega) (by omega)).mono ?_; rintro e w1 ⟨rfl, hb1⟩; obtain ⟨hc1, hf1, hz1⟩ := bcell hb1; (try simp only [World.size_alloc, World.size_setCell, World.size_drew] at hz1); have hw2 : w.heap.size < w1.heap.size := (by omega)))
              go_roundg (gk - 1)
              case measure => omega
              case rel => exact ⟨k + 1, by omega, by go_num, ⟨fun j hj => by
                rcases Nat.lt_or_ge j k with h | h
                · exact HE.out j h
                · obtain rfl : j = k := by omega
                  exact HS.out⟩, by go_simp, by go_simp, by omega, ⟨(by repeat (first | (with_reducible exact Below.refl _ _) | (with_reducible exact HB.out) | (with_reducible assumption) | (with_reducible apply below_alloc) | (with_reducible apply below_drew) | (with_reducible apply pw_below_drewN) | (with_reducible refine bstep' ?_ (by assumption)) | ((with_reducible refine Below.setCell ?_ ?_ _); rotate_left; (first | (dsimp only; omega) | (simp; done) | (simp; omega) | omega))))⟩⟩
          · obtain rfl : k = fs.length := by omega
            have HX := Aside0.mk (check_ok (p := ⟨bs, fs⟩) HN.out (fun j hj => HA.out j hj) (fun j hj => HE.out j hj))
            go_wp2_with fail
            go_ret
            exact ⟨by rw [HX.out]; rfl, HB.out⟩

end Go.Proofs.Ytkkimlicabbooaa

/-
  of and strip of package search; a store into a row of plain structures.
-/
namespace Go.Proofs.Ytkkimlicabbooaa
open Go.RowKit Go.Proofs.YtkkimlicabbooaaW.PrintWords Bs
attribute [local go_sem] Later.cell? Later.frozen?
set_option linter.unusedVariables false
set_option linter.unusedSimpArgs false

theorem set_take {l : List Value} {j : Nat} {u : Value} (h : j < l.length) : l.take j ++ [u] ++ l.drop (j + 1) = l.set j u := by
  rw [List.set_eq_take_append_cons_drop, if_pos h, List.append_assoc]; rfl
/-- One cell of an element is written. -/
theorem R_set1 {α : Type} {sz : Nat} {enc : α → List Value} {hl : ∀ x, (enc x).length = sz} {h1 : ∀ x, ∀ u ∈ enc x, u.oneCell' = true} {e base g n cap : Nat} {ok : Nat → Prop} {W : World} {xs : List α} {z : α}
    (h : (flat sz enc hl h1).R e W base ok (.slice (some ⟨g, 0, none⟩) n cap) xs) (i : Nat) (hi : i < n) {j : Nat} (hj : j < sz) {u : Value} {x' : α} (hx : enc x' = (enc (xs.getD i z)).set j u) :
    (flat sz enc hl h1).R e (W.setCell ⟨g, i * sz + j, none⟩ u) base ok (.slice (some ⟨g, 0, none⟩) n cap) (xs.set i x') ∧ W.grownBy (W.setCell ⟨g, i * sz + j, none⟩ u) (some g) := by
  obtain ⟨hn, _, hC⟩ := Kd.R_reads' h
  obtain ⟨b, off, he, _, hr⟩ := row_at (show 0 < (flat sz enc hl h1).sz from Nat.lt_of_le_of_lt (Nat.zero_le _) hj) hC (by omega)
  cases he
  obtain ⟨c, hcl, hK, hcc⟩ := hr i (xs.getD i z) (rd_some (by omega))
  obtain rfl := (show c = enc (xs.getD i z) from hK)
  have h := Kd.R_seg h (i : Int) (by omega) (by omega) (c := enc (xs.getD i z)) (seg := [u]) (j := j) hcl (fun j u hu => by have := hcc j u hu; rw [Int.toNat_natCast]; simpa only [Nat.zero_add] using this) (by simp [flat]; omega) (x' := x') (okp := fun _ => False)
    (show (enc (xs.getD i z)).take j ++ [u] ++ (enc (xs.getD i z)).drop (j + [u].length) = enc x' by rw [hx]; exact set_take (by rw [hl]; exact hj)) (fun _ h => h.elim)
  rw [Int.toNat_natCast] at h
  exact h

set_option maxHeartbeats 400000 in
theorem of_0 (g o : Nat) (w : World) :
    Calls Try.prog 62 #[.pointer (some ⟨g, o, none⟩), .int .i64 0] w fun e w' => e = .returned (.pointer (some ⟨g, o, none⟩)) ∧ w = w' := by
  go_enter Try.func62, Try.ntmps62
  go_wp2
  go_ret
  exact ⟨rfl, rfl⟩
set_option maxHeartbeats 400000 in
theorem of_1 (g o : Nat) (w : World) :
    Calls Try.prog 62 #[.pointer (some ⟨g, o, none⟩), .int .i64 1] w fun e w' => e = .returned (.pointer (some ⟨g, o + 2, none⟩)) ∧ w = w' := by
  go_enter Try.func62, Try.ntmps62
  go_wp2
  go_ret
  exact ⟨rfl, rfl⟩

theorem R_own1 {α : Type} {d : Kd α} {e base g n cap : Nat} {ok : Nat → Prop} {W : World} {xs : List α} (h : d.R e W base ok (.slice (some ⟨g, 0, none⟩) n cap) xs) (hn : 0 < n) : (∀ k, W.frozen? ⟨g, k, none⟩ = false) ∧ base ≤ g ∧ g < W.heap.size := by
  obtain ⟨hn', _, _⟩ := Kd.R_reads' h
  obtain ⟨g', cg, eg, gb, gl, cl, HG⟩ := Kd.R_form h (by omega)
  have e1 : g = g' := by (injection eg with a _ _; injection a with a; injection a)
  subst e1
  exact ⟨fun k => blk_frozen HG k, gb, gl⟩

set_option maxHeartbeats 1600000 in
theorem strip_0 (A : Option Addr) (n c : Nat) (bs : List Bx) (p : Nat) (w : World) (h : kBx.C w A n bs) (hp : p < n) (hn : n * 32 ≤ 140737488355328) :
    Calls Try.prog 61 #[.slice A n c, .agg #[.int .i64 (p : Int), .int .i64 0, .bool false]] w fun e w' => ∃ v, e = .returned v ∧ kBx.R 42 w' w.heap.size (fun _ => True) v (stripP bs p 0) ∧ Below w.heap.size w w' := by
  have HV := Aside0.mk h
  have hl := h.1
  have hn1 : n ≤ 9223372036854775807 := h.2.1
  clear h
  have hp1 : (p : Int) < (n : Int) := by omega
  go_enter Try.func61, Try.ntmps61
  go_wp2_with (first | (go_at_call 57; refine (cloneBx_c A n c bs _ (Kd.C_below HV.out (by repeat (first | (with_reducible exact Below.refl _ _) | (with_reducible exact HB.out) | (with_reducible apply below_alloc) | (with_reducible apply below_drew) | (with_reducible apply pw_below_drewN) | (with_reducible refine bstep' ?_ (by assumption)) | ((with_reducible refine Below.setCell ?_ ?_ _); rotate_left; (first | (dsimp only; omega) | (simp; done) | (simp; omega) | omega))))) hn).mono ?_; rintro e w1 ⟨v1, rfl, hv1, hb1⟩))
  obtain ⟨g, cg, rfl, gb, gl, cl, HG⟩ := Kd.R_form hv1 (by omega)
  have HO := Aside0.mk hv1
  clear hv1 HG
  have e0 : w1.cell? ⟨w.heap.size, 0, none⟩ = some (.int .i64 (p : Int)) := (hb1.cell (by simp)).trans (by go_simp)
  have e1 : w1.cell? ⟨w.heap.size, 1, none⟩ = some (.int .i64 0) := (hb1.cell (by simp)).trans (by go_simp)
  have e2 : w1.cell? ⟨w.heap.size, 2, none⟩ = some (.bool false) := (hb1.cell (by simp)).trans (by go_simp)
  have hlw : w.heap.size < w1.heap.size := by have := hb1.size; simp at this; omega
  have hpl : (p : Int) < (bs.length : Int) := by omega
  have HB := Aside0.mk (show Below w.heap.size w w1 from (by repeat (first | (with_reducible exact Below.refl _ _) | (with_reducible exact HB.out) | (with_reducible assumption) | (with_reducible apply below_alloc) | (with_reducible apply below_drew) | (with_reducible apply pw_below_drewN) | (with_reducible refine bstep' ?_ (by assumption)) | ((with_reducible refine Below.setCell ?_ ?_ _); rotate_left; (first | (dsimp only; omega) | (simp; done) | (simp; omega) | omega)))))
  clear hb1
  (refine wp_region_quiet (C := fun w' => ∃ t : Later _, w' = t.w) (by kernel_rfl) (by kernel_rfl) (IsLater.drew _) ?_; (repeat (first | go_big_quiet_step ((go_at_call 62; exact later_same (of_0 _ _ _))) | quiet_step ((go_at_call 62; exact later_same (of_0 _ _ _))))); refine wpQuiet_nil ?_; rintro _ ⟨tq, rfl⟩)
  have hq := tq.h
  have hls : w.heap.size < tq.w.heap.size := Nat.lt_of_lt_of_le hlw tq.size
  have HO2 := Aside0.mk (Kd.R_lower (Kd.R_below HO.out hq) (show w.heap.size ≤ _ by simp))
  obtain ⟨_, _, he, _, b0, b1, b2, b3⟩ := at_Bx (Kd.R_reads' HO2.out).2.2 (p : Int) (by omega) (by omega)
  cases he
  simp only [Int.toNat_natCast, Nat.zero_add] at b0 b1 b2 b3
  have hfz := (R_own1 HO2.out (by omega)).1
  have HS := Aside0.mk (R_set1 (z := ⟨⟨0, 0⟩, ⟨0, 0⟩⟩) (enc := encBx) HO2.out p (by omega) (j := 1) (by omega) (u := .int .i64 (rBx bs p).x.lo) (x' := stripB (rBx bs p) 0) (by rw [rBx_nat]; rfl))
  have gb2 : w.heap.size ≤ g := Nat.le_trans (by simp) gb
  go_wp2_with fail
  go_ret
  exact ⟨_, rfl, by have h5 := HS.out.1; rw [hl] at *; exact h5, (by repeat (first | (with_reducible exact Below.refl _ _) | (with_reducible exact HB.out) | (with_reducible assumption) | (with_reducible apply below_alloc) | (with_reducible apply below_drew) | (with_reducible apply pw_below_drewN) | (with_reducible refine bstep' ?_ (by assumption)) | ((with_reducible refine Below.setCell ?_ ?_ _); rotate_left; (first | (dsimp only; omega) | (simp; done) | (simp; omega) | omega))))⟩

set_option maxHeartbeats 1600000 in
theorem strip_1 (A : Option Addr) (n c : Nat) (bs : List Bx) (p : Nat) (w : World) (h : kBx.C w A n bs) (hp : p < n) (hn : n * 32 ≤ 140737488355328) :
    Calls Try.prog 61 #[.slice A n c, .agg #[.int .i64 (p : Int), .int .i64 0, .bool true]] w fun e w' => ∃ v, e = .returned v ∧ kBx.R 42 w' w.heap.size (fun _ => True) v (stripP bs p 1) ∧ Below w.heap.size w w' := by
  have HV := Aside0.mk h
  have hl := h.1
  have hn1 : n ≤ 9223372036854775807 := h.2.1
  clear h
  have hp1 : (p : Int) < (n : Int) := by omega
  go_enter Try.func61, Try.ntmps61
  go_wp2_with (first | (go_at_call 57; refine (cloneBx_c A n c bs _ (Kd.C_below HV.out (by repeat (first | (with_reducible exact Below.refl _ _) | (with_reducible exact HB.out) | (with_reducible apply below_alloc) | (with_reducible apply below_drew) | (with_reducible apply pw_below_drewN) | (with_reducible refine bstep' ?_ (by assumption)) | ((with_reducible refine Below.setCell ?_ ?_ _); rotate_left; (first | (dsimp only; omega) | (simp; done) | (simp; omega) | omega))))) hn).mono ?_; rintro e w1 ⟨v1, rfl, hv1, hb1⟩))
  obtain ⟨g, cg, rfl, gb, gl, cl, HG⟩ := Kd.R_form hv1 (by omega)
  have HO := Aside0.mk hv1
  clear hv1 HG
  have e0 : w1.cell? ⟨w.heap.size, 0, none⟩ = some (.int .i64 (p : Int)) := (hb1.cell (by simp)).trans (by go_simp)
  have e1 : w1.cell? ⟨w.heap.size, 1, none⟩ = some (.int .i64 0) := (hb1.cell (by simp)).trans (by go_simp)
  have e2 : w1.cell? ⟨w.heap.size, 2, none⟩ = some (.bool true) := (hb1.cell (by simp)).trans (by go_simp)
  have hlw : w.heap.size < w1.heap.size := by have := hb1.size; simp at this; omega
  have hpl : (p : Int) < (bs.length : Int) := by omega
  have HB := Aside0.mk (show Below w.heap.size w w1 from (by repeat (first | (with_reducible exact Below.refl _ _) | (with_reducible exact HB.out) | (with_reducible assumption) | (with_reducible apply below_alloc) | (with_reducible apply below_drew) | (with_reducible apply pw_below_drewN) | (with_reducible refine bstep' ?_ (by assumption)) | ((with_reducible refine Below.setCell ?_ ?_ _); rotate_left; (first | (dsimp only; omega) | (simp; done) | (simp; omega) | omega)))))
  clear hb1
  (refine wp_region_quiet (C := fun w' => ∃ t : Later _, w' = t.w) (by kernel_rfl) (by kernel_rfl) (IsLater.drew _) ?_; (repeat (first | go_big_quiet_step ((go_at_call 62; exact later_same (of_0 _ _ _))) | quiet_step ((go_at_call 62; exact later_same (of_0 _ _ _))))); refine wpQuiet_nil ?_; rintro _ ⟨tq, rfl⟩)
  have hq := tq.h
  have hls : w.heap.size < tq.w.heap.size := Nat.lt_of_lt_of_le hlw tq.size
  have HO2 := Aside0.mk (Kd.R_lower (Kd.R_below HO.out hq) (show w.heap.size ≤ _ by simp))
  obtain ⟨_, _, he, _, b0, b1, b2, b3⟩ := at_Bx (Kd.R_reads' HO2.out).2.2 (p : Int) (by omega) (by omega)
  cases he
  simp only [Int.toNat_natCast, Nat.zero_add] at b0 b1 b2 b3
  have hfz := (R_own1 HO2.out (by omega)).1
  have HS := Aside0.mk (R_set1 (z := ⟨⟨0, 0⟩, ⟨0, 0⟩⟩) (enc := encBx) HO2.out p (by omega) (j := 0) (by omega) (u := .int .i64 (rBx bs p).x.hi) (x' := stripB (rBx bs p) 1) (by rw [rBx_nat]; rfl))
  have gb2 : w.heap.size ≤ g := Nat.le_trans (by simp) gb
  go_wp2_with fail
  go_ret
  exact ⟨_, rfl, by have h5 := HS.out.1; rw [hl] at *; exact h5, (by repeat (first | (with_reducible exact Below.refl _ _) | (with_reducible exact HB.out) | (with_reducible assumption) | (with_reducible apply below_alloc) | (with_reducible apply below_drew) | (with_reducible apply pw_below_drewN) | (with_reducible refine bstep' ?_ (by assumption)) | ((with_reducible refine Below.setCell ?_ ?_ _); rotate_left; (first | (dsimp only; omega) | (simp; done) | (simp; omega) | omega))))⟩

set_option maxHeartbeats 1600000 in
theorem strip_2 (A : Option Addr) (n c : Nat) (bs : List Bx) (p : Nat) (w : World) (h : kBx.C w A n bs) (hp : p < n) (hn : n * 32 ≤ 140737488355328) :
    Calls Try.prog 61 #[.slice A n c, .agg #[.int .i64 (p : Int), .int .i64 1, .bool false]] w fun e w' => ∃ v, e = .returned v ∧ kBx.R 42 w' w.heap.size (fun _ => True) v (stripP bs p 2) ∧ Below w.heap.size w w' := by
  have HV := Aside0.mk h
  have hl := h.1
  have hn1 : n ≤ 9223372036854775807 := h.2.1
  clear h
  have hp1 : (p : Int) < (n : Int) := by omega
  go_enter Try.func61, Try.ntmps61
  go_wp2_with (first | (go_at_call 57; refine (cloneBx_c A n c bs _ (Kd.C_below HV.out (by repeat (first | (with_reducible exact Below.refl _ _) | (with_reducible exact HB.out) | (with_reducible apply below_alloc) | (with_reducible apply below_drew) | (with_reducible apply pw_below_drewN) | (with_reducible refine bstep' ?_ (by assumption)) | ((with_reducible refine Below.setCell ?_ ?_ _); rotate_left; (first | (dsimp only; omega) | (simp; done) | (simp; omega) | omega))))) hn).mono ?_; rintro e w1 ⟨v1, rfl, hv1, hb1⟩))
  obtain ⟨g, cg, rfl, gb, gl, cl, HG⟩ := Kd.R_form hv1 (by omega)
  have HO := Aside0.mk hv1
  clear hv1 HG
  have e0 : w1.cell? ⟨w.heap.size, 0, none⟩ = some (.int .i64 (p : Int)) := (hb1.cell (by simp)).trans (by go_simp)
  have e1 : w1.cell? ⟨w.heap.size, 1, none⟩ = some (.int .i64 1) := (hb1.cell (by simp)).trans (by go_simp)
  have e2 : w1.cell? ⟨w.heap.size, 2, none⟩ = some (.bool false) := (hb1.cell (by simp)).trans (by go_simp)
  have hlw : w.heap.size < w1.heap.size := by have := hb1.size; simp at this; omega
  have hpl : (p : Int) < (bs.length : Int) := by omega
  have HB := Aside0.mk (show Below w.heap.size w w1 from (by repeat (first | (with_reducible exact Below.refl _ _) | (with_reducible exact HB.out) | (with_reducible assumption) | (with_reducible apply below_alloc) | (with_reducible apply below_drew) | (with_reducible apply pw_below_drewN) | (with_reducible refine bstep' ?_ (by assumption)) | ((with_reducible refine Below.setCell ?_ ?_ _); rotate_left; (first | (dsimp only; omega) | (simp; done) | (simp; omega) | omega)))))
  clear hb1
  (refine wp_region_quiet (C := fun w' => ∃ t : Later _, w' = t.w) (by kernel_rfl) (by kernel_rfl) (IsLater.drew _) ?_; (repeat (first | go_big_quiet_step ((go_at_call 62; exact later_same (of_1 _ _ _))) | quiet_step ((go_at_call 62; exact later_same (of_1 _ _ _))))); refine wpQuiet_nil ?_; rintro _ ⟨tq, rfl⟩)
  have hq := tq.h
  have hls : w.heap.size < tq.w.heap.size := Nat.lt_of_lt_of_le hlw tq.size
  have HO2 := Aside0.mk (Kd.R_lower (Kd.R_below HO.out hq) (show w.heap.size ≤ _ by simp))
  obtain ⟨_, _, he, _, b0, b1, b2, b3⟩ := at_Bx (Kd.R_reads' HO2.out).2.2 (p : Int) (by omega) (by omega)
  cases he
  simp only [Int.toNat_natCast, Nat.zero_add] at b0 b1 b2 b3
  have hfz := (R_own1 HO2.out (by omega)).1
  have HS := Aside0.mk (R_set1 (z := ⟨⟨0, 0⟩, ⟨0, 0⟩⟩) (enc := encBx) HO2.out p (by omega) (j := 3) (by omega) (u := .int .i64 (rBx bs p).y.lo) (x' := stripB (rBx bs p) 2) (by rw [rBx_nat]; rfl))
  have gb2 : w.heap.size ≤ g := Nat.le_trans (by simp) gb
  go_wp2_with fail
  go_ret
  exact ⟨_, rfl, by have h5 := HS.out.1; rw [hl] at *; exact h5, (by repeat (first | (with_reducible exact Below.refl _ _) | (with_reducible exact HB.out) | (with_reducible assumption) | (with_reducible apply below_alloc) | (with_reducible apply below_drew) | (with_reducible apply pw_below_drewN) | (with_reducible refine bstep' ?_ (by assumption)) | ((with_reducible refine Below.setCell ?_ ?_ _); rotate_left; (first | (dsimp only; omega) | (simp; done) | (simp; omega) | omega))))⟩

set_option maxHeartbeats 1600000 in
theorem strip_3 (A : Option Addr) (n c : Nat) (bs : List Bx) (p : Nat) (w : World) (h : kBx.C w A n bs) (hp : p < n) (hn : n * 32 ≤ 140737488355328) :
    Calls Try.prog 61 #[.slice A n c, .agg #[.int .i64 (p : Int), .int .i64 1, .bool true]] w fun e w' => ∃ v, e = .returned v ∧ kBx.R 42 w' w.heap.size (fun _ => True) v (stripP bs p 3) ∧ Below w.heap.size w w' := by
  have HV := Aside0.mk h
  have hl := h.1
  have hn1 : n ≤ 9223372036854775807 := h.2.1
  clear h
  have hp1 : (p : Int) < (n : Int) := by omega
  go_enter Try.func61, Try.ntmps61
  go_wp2_with (first | (go_at_call 57; refine (cloneBx_c A n c bs _ (Kd.C_below HV.out (by repeat (first | (with_reducible exact Below.refl _ _) | (with_reducible exact HB.out) | (with_reducible apply below_alloc) | (with_reducible apply below_drew) | (with_reducible apply pw_below_drewN) | (with_reducible refine bstep' ?_ (by assumption)) | ((with_reducible refine Below.setCell ?_ ?_ _); rotate_left; (first | (dsimp only; omega) | (simp; done) | (simp; omega) | omega))))) hn).mono ?_; rintro e w1 ⟨v1, rfl, hv1, hb1⟩))
  obtain ⟨g, cg, rfl, gb, gl, cl, HG⟩ := Kd.R_form hv1 (by omega)
  have HO := Aside0.mk hv1
  clear hv1 HG
  have e0 : w1.cell? ⟨w.heap.size, 0, none⟩ = some (.int .i64 (p : Int)) := (hb1.cell (by simp)).trans (by go_simp)
  have e1 : w1.cell? ⟨w.heap.size, 1, none⟩ = some (.int .i64 1) := (hb1.cell (by simp)).trans (by go_simp)
  have e2 : w1.cell? ⟨w.heap.size, 2, none⟩ = some (.bool true) := (hb1.cell (by simp)).trans (by go_simp)
  have hlw : w.heap.size < w1.heap.size := by have := hb1.size; simp at this; omega
  have hpl : (p : Int) < (bs.length : Int) := by omega
  have HB := Aside0.mk (show Below w.heap.size w w1 from (by repeat (first | (with_reducible exact Below.refl _ _) | (with_reducible exact HB.out) | (with_reducible assumption) | (with_reducible apply below_alloc) | (with_reducible apply below_drew) | (with_reducible apply pw_below_drewN) | (with_reducible refine bstep' ?_ (by assumption)) | ((with_reducible refine Below.setCell ?_ ?_ _); rotate_left; (first | (dsimp only; omega) | (simp; done) | (simp; omega) | omega)))))
  clear hb1
  (refine wp_region_quiet (C := fun w' => ∃ t : Later _, w' = t.w) (by kernel_rfl) (by kernel_rfl) (IsLater.drew _) ?_; (repeat (first | go_big_quiet_step ((go_at_call 62; exact later_same (of_1 _ _ _))) | quiet_step ((go_at_call 62; exact later_same (of_1 _ _ _))))); refine wpQuiet_nil ?_; rintro _ ⟨tq, rfl⟩)
  have hq := tq.h
  have hls : w.heap.size < tq.w.heap.size := Nat.lt_of_lt_of_le hlw tq.size
  have HO2 := Aside0.mk (Kd.R_lower (Kd.R_below HO.out hq) (show w.heap.size ≤ _ by simp))
  obtain ⟨_, _, he, _, b0, b1, b2, b3⟩ := at_Bx (Kd.R_reads' HO2.out).2.2 (p : Int) (by omega) (by omega)
  cases he
  simp only [Int.toNat_natCast, Nat.zero_add] at b0 b1 b2 b3
  have hfz := (R_own1 HO2.out (by omega)).1
  have HS := Aside0.mk (R_set1 (z := ⟨⟨0, 0⟩, ⟨0, 0⟩⟩) (enc := encBx) HO2.out p (by omega) (j := 2) (by omega) (u := .int .i64 (rBx bs p).y.hi) (x' := stripB (rBx bs p) 3) (by rw [rBx_nat]; rfl))
  have gb2 : w.heap.size ≤ g := Nat.le_trans (by simp) gb
  go_wp2_with fail
  go_ret
  exact ⟨_, rfl, by have h5 := HS.out.1; rw [hl] at *; exact h5, (by repeat (first | (with_reducible exact Below.refl _ _) | (with_reducible exact HB.out) | (with_reducible assumption) | (with_reducible apply below_alloc) | (with_reducible apply below_drew) | (with_reducible apply pw_below_drewN) | (with_reducible refine bstep' ?_ (by assumption)) | ((with_reducible refine Below.setCell ?_ ?_ _); rotate_left; (first | (dsimp only; omega) | (simp; done) | (simp; omega) | omega))))⟩

end Go.Proofs.Ytkkimlicabbooaa

/-
  narrow of package search: words for its walk; strip and of at any side.
-/
namespace Go.Proofs.Ytkkimlicabbooaa
open Go.RowKit Go.Proofs.YtkkimlicabbooaaW.PrintWords Bs
attribute [local go_sem] Later.cell? Later.frozen?
set_option linter.unusedVariables false
set_option linter.unusedSimpArgs false

def offK (k : Nat) : Nat := if k < 2 then 0 else 2

theorem of_c (g o k : Nat) (w : World) (hk : k < 4) :
    Calls Try.prog 62 #[.pointer (some ⟨g, o, none⟩), .int .i64 ((k : Int) / 2)] w fun e w' => e = .returned (.pointer (some ⟨g, o + offK k, none⟩)) ∧ w = w' := by
  rcases k with _ | _ | _ | _ | k
  · exact of_0 g o w
  · exact of_0 g o w
  · exact of_1 g o w
  · exact of_1 g o w
  · omega
theorem strip_c (k : Nat) (A : Option Addr) (n c : Nat) (bs : List Bx) (p : Nat) (w : World) (h : kBx.C w A n bs) (hk : k < 4) (hp : p < n) (hn : n * 32 ≤ 140737488355328) :
    Calls Try.prog 61 #[.slice A n c, .agg #[.int .i64 (p : Int), .int .i64 ((k : Int) / 2), .bool ((k : Int) % 2 == 1)]] w fun e w' => ∃ v, e = .returned v ∧ kBx.R 42 w' w.heap.size (fun _ => True) v (stripP bs p k) ∧ Below w.heap.size w w' := by
  rcases k with _ | _ | _ | _ | k
  · exact strip_0 A n c bs p w h hp hn
  · exact strip_1 A n c bs p w h hp hn
  · exact strip_2 A n c bs p w h hp hn
  · exact strip_3 A n c bs p w h hp hn
  · omega

theorem span_cells {w : World} {g n c : Nat} {l : List Bx} (h : kBx.C w (some ⟨g, 0, none⟩) n l) (p k : Nat) (hp : p < n) :
    w.cell? ⟨g, p * 4 + offK k, none⟩ = some (.int .i64 (spanOf (rBx l p) k).lo) ∧ w.cell? ⟨g, p * 4 + offK k + 1, none⟩ = some (.int .i64 (spanOf (rBx l p) k).hi) := by
  obtain ⟨_, _, he, _, b0, b1, b2, b3⟩ := at_Bx h (p : Int) (by omega) (by omega)
  cases he
  simp only [Int.toNat_natCast, Nat.zero_add] at b0 b1 b2 b3
  rcases k with _ | _ | k
  · exact ⟨b0, b1⟩
  · exact ⟨b0, b1⟩
  · have ho : offK (k + 1 + 1) = 2 := if_neg (by omega)
    rw [ho]
    exact ⟨b2, b3⟩

/-- The state of narrow: the boxes l in block g, the facts' numbers, the problem. -/
structure NW (w : World) (g n cap n2 c1 c2 c3 : Nat) (A1 A2 A3 : Option Addr) (bs : List Bx) (fs : List Fct) (l : List Bx) (wr : World) : Prop where
  e0 : wr.cell? ⟨w.heap.size, 0, none⟩ = some (.slice A1 n c1)
  e1 : wr.cell? ⟨w.heap.size, 1, none⟩ = some (.slice A2 n2 c2)
  L : kBx.R 42 wr w.heap.size (fun _ => True) (.slice (some ⟨g, 0, none⟩) n cap) l
  S : kInt.R 3 wr w.heap.size (fun _ => True) (.slice A3 n2 c3) (allP n2)
  B : Below w.heap.size w wr
  lt : w.heap.size < wr.heap.size
  ne : w.heap.size ≠ g
  cuts : Cuts fs bs l
  valid : AllValid l

section
variable {w : World} {g n cap n2 c1 c2 c3 : Nat} {A1 A2 A3 : Option Addr} {bs : List Bx} {fs : List Fct} {l : List Bx} {wr w2 : World}
theorem NW.below (h : NW w g n cap n2 c1 c2 c3 A1 A2 A3 bs fs l wr) (hb : Below wr.heap.size wr w2) : NW w g n cap n2 c1 c2 c3 A1 A2 A3 bs fs l w2 :=
  ⟨(hb.cell (p := ⟨w.heap.size, 0, none⟩) h.lt).trans h.e0, (hb.cell (p := ⟨w.heap.size, 1, none⟩) h.lt).trans h.e1, Kd.R_below h.L hb, Kd.R_below h.S hb, bstep' h.B hb, Nat.lt_of_lt_of_le h.lt hb.size, h.ne, h.cuts, h.valid⟩
theorem NW.len (h : NW w g n cap n2 c1 c2 c3 A1 A2 A3 bs fs l wr) : l.length = n := (Kd.R_reads' h.L).1.symm
theorem NW.C (h : NW w g n cap n2 c1 c2 c3 A1 A2 A3 bs fs l wr) : kBx.C wr (some ⟨g, 0, none⟩) n l := by
  have := (Kd.R_reads' h.L).2.2; rwa [h.len] at this
theorem int_row_keep {v : Value} {xs : List Int} {u : Value} {ys : List Bx} {b b' : Nat} {ok ok' : Nat → Prop} (h : kInt.R 3 wr b ok v xs) (hl : kBx.R 42 wr b' ok' u ys) (hg : wr.grownBy w2 u.ownBlock) : kInt.R 3 w2 b ok v xs :=
  Kd.R_over h hl (by intro q hq; simp [kInt, Kd.int, Kd.scalar] at hq; omega) hg
theorem allValid_cut (h : AllValid l) {p k : Nat} (hp : p < l.length) (hs : (spanOf (rBx l p) k).lo < (spanOf (rBx l p) k).hi) : AllValid (cutP l p k) := by
  intro i h0 h1
  obtain ⟨q, rfl⟩ := Int.eq_ofNat_of_zero_le h0
  exact allValid_set (fun q hq => h q (by omega) (by omega)) (cut_valid (h p (by omega) (by omega)) hs) q (by simpa [cutP] using h1)
theorem NW.cut (h : NW w g n cap n2 c1 c2 c3 A1 A2 A3 bs fs l wr) {p k j : Nat} {u : Value} (hp : p < n) (hk : k < 4) (hs : (spanOf (rBx l p) k).lo < (spanOf (rBx l p) k).hi) (hf : AnyFails fs (stripP l p k)) (hj : j < 4) (hx : encBx (cutB (rBx l p) k) = (encBx (rBx l p)).set j u) :
    NW w g n cap n2 c1 c2 c3 A1 A2 A3 bs fs (cutP l p k) (wr.setCell ⟨g, p * 4 + j, none⟩ u) := by
  have hR := R_set1 (z := ⟨⟨0, 0⟩, ⟨0, 0⟩⟩) (enc := encBx) h.L p hp (j := j) hj (u := u) (x' := cutB (rBx l p) k) (by rw [hx, rBx_nat])
  have hgb := (R_own1 h.L (by omega)).2.1
  have hlen := h.len
  refine ⟨?_, ?_, hR.1, int_row_keep h.S h.L hR.2, h.B.setCell hgb _, by simpa using h.lt, h.ne, Cuts.step h.cuts (by omega) hk hs hf, allValid_cut h.valid (by omega) hs⟩
  · exact (World.cell?_of_block (Below.heap_setCell wr _ _ _ h.ne)).trans h.e0
  · exact (World.cell?_of_block (Below.heap_setCell wr _ _ _ h.ne)).trans h.e1
theorem allValid_strip (h : AllValid l) {p k : Nat} (hp : p < l.length) : AllValid (stripP l p k) := by
  intro i h0 h1
  obtain ⟨q, rfl⟩ := Int.eq_ofNat_of_zero_le h0
  exact allValid_set (fun q hq => h q (by omega) (by omega)) (strip_valid k (h p (by omega) (by omega))) q (by simpa [stripP] using h1)
end

def NarrowPost (w : World) (bs : List Bx) (fs : List Fct) (e : Ending) (w' : World) : Prop :=
  (∃ l v, e = .returned (.tuple #[v, .bool true]) ∧ kBx.R 42 w' w.heap.size (fun _ => True) v l ∧ NBox fs bs l ∧ AllValid l ∧ Below w.heap.size w w') ∨
  (e = .returned (.tuple #[.slice none 0 0, .bool false]) ∧ NEmpty fs bs ∧ Below w.heap.size w w')

end Go.Proofs.Ytkkimlicabbooaa

/-
  narrow of package search, walked.
-/
namespace Go.Proofs.Ytkkimlicabbooaa
open Go.RowKit Go.Proofs.YtkkimlicabbooaaW.PrintWords Bs
attribute [local go_sem] Later.cell? Later.frozen?
set_option linter.unusedVariables false
set_option linter.unusedSimpArgs false

theorem strip_cb (k : Nat) (A : Option Addr) (n c : Nat) (bs : List Bx) (p : Nat) (hb : Bool) (w : World) (hh : ((k : Int) % 2 == 1) = hb) (h : kBx.C w A n bs) (hk : k < 4) (hp : p < n) (hn : n * 32 ≤ 140737488355328) :
    Calls Try.prog 61 #[.slice A n c, .agg #[.int .i64 (p : Int), .int .i64 ((k : Int) / 2), .bool hb]] w fun e w' => ∃ v, e = .returned v ∧ kBx.R 42 w' w.heap.size (fun _ => True) v (stripP bs p k) ∧ Below w.heap.size w w' := by
  subst hh; exact strip_c k A n c bs p w h hk hp hn
theorem enc_cut_hi {b : Bx} {k : Nat} (hk : k < 4) (h : ((k : Int) % 2 == 1) = true) : encBx (cutB b k) = (encBx b).set (offK k + 1) (.int .i64 ((spanOf b k).hi - 1)) := by
  rcases k with _ | _ | _ | _ | k <;> first | rfl | (simp at h; done) | omega
theorem enc_cut_lo {b : Bx} {k : Nat} (hk : k < 4) (h : ((k : Int) % 2 == 1) = false) : encBx (cutB b k) = (encBx b).set (offK k) (.int .i64 ((spanOf b k).lo + 1)) := by
  rcases k with _ | _ | _ | _ | k <;> first | rfl | (simp at h; done) | omega
theorem offK_lt (k : Nat) : offK k + 1 < 4 := by unfold offK; split <;> omega
theorem grown_set (w : World) (g j : Nat) (u : Value) : w.grownBy (w.setCell ⟨g, j, none⟩ u) (some g) := ⟨rfl, rfl, rfl, by simp, fun k _ hne => Below.heap_setCell w ⟨g, j, none⟩ u k (fun e => hne (by rw [e]))⟩

set_option maxHeartbeats 6400000 in
set_option maxRecDepth 100000 in
theorem narrow_pos (A1 A2 : Option Addr) (n n2 c1 c2 : Nat) (bs : List Bx) (fs : List Fct) (w : World) (h1 : kBx.C w A1 n bs) (h2 : kFct.C w A2 n2 fs) (hv : AllValid bs) (hf : AllFormed fs n) (hn : 0 < n) (hn1 : n ≤ 12) (hn2 : n2 ≤ 60) :
    Calls Try.prog 35 #[.agg #[.slice A1 n c1, .slice A2 n2 c2]] w (NarrowPost w bs fs) := by
  have H1 := Aside0.mk h1
  have H2 := Aside0.mk h2
  have HF := Aside0.mk hf
  have HV := Aside0.mk hv
  have hl1 := h1.1
  have hl2 := h2.1
  clear h1 h2 hv hf
  go_enter Try.func35, Try.ntmps35
  go_wp2_with (first | (go_at_call 57; refine (cloneBx_c _ n _ bs _ (Kd.C_below H1.out (by repeat (first | (with_reducible exact Below.refl _ _) | (with_reducible exact HB.out) | (with_reducible apply below_alloc) | (with_reducible apply below_drew) | (with_reducible apply pw_below_drewN) | (with_reducible refine bstep' ?_ (by assumption)) | ((with_reducible refine Below.setCell ?_ ?_ _); rotate_left; (first | (dsimp only; omega) | (simp; done) | (simp; omega) | omega))))) (by omega)).mono ?_; rintro e w1 ⟨v1, rfl, hv1, hb1⟩; obtain ⟨hc1, hf1, hz1⟩ := bcell hb1; (try simp only [World.size_alloc, World.size_setCell, World.size_drew] at hz1)))
  obtain ⟨g, cap, rfl, gb, gl, cl, HG⟩ := Kd.R_form hv1 (by omega)
  have HO := Aside0.mk (Kd.R_lower hv1 (show w.heap.size ≤ _ by simp))
  have hng : w.heap.size ≠ g := by simp at gb; omega
  have e0 : w1.cell? ⟨w.heap.size, 0, none⟩ = some (.slice A1 n c1) := (hb1.cell (by simp)).trans (by go_simp)
  have e1 : w1.cell? ⟨w.heap.size, 1, none⟩ = some (.slice A2 n2 c2) := (hb1.cell (by simp)).trans (by go_simp)
  have hlw : w.heap.size < w1.heap.size := by have := hb1.size; simp at this; omega
  have HB := Aside0.mk (show Below w.heap.size w w1 from (by repeat (first | (with_reducible exact Below.refl _ _) | (with_reducible exact HB.out) | (with_reducible assumption) | (with_reducible apply below_alloc) | (with_reducible apply below_drew) | (with_reducible apply pw_below_drewN) | (with_reducible refine bstep' ?_ (by assumption)) | ((with_reducible refine Below.setCell ?_ ?_ _); rotate_left; (first | (dsimp only; omega) | (simp; done) | (simp; omega) | omega)))))
  clear hb1 hv1 HG gb gl hc1 hf1 hz1
  rw [hl1] at HO ⊢
  go_wp2_with (first | (go_at_call 58; refine (all_c _ n2 _ _ (by omega)).mono ?_; rintro e w2 ⟨v2, rfl, hv2, hb2⟩; obtain ⟨hc2, hf2, hz2⟩ := bcell hb2; (try simp only [World.size_alloc, World.size_setCell, World.size_drew] at hz2)))
  obtain ⟨A3, c3, rfl⟩ := Kd.R_slice hv2
  have HN0 := Aside0.mk (NW.mk (n2 := n2) (c2 := c2) (A2 := A2) (A3 := A3) (c3 := c3) (fs := fs) ((hb2.cell (p := ⟨w.heap.size, 0, none⟩) hlw).trans e0) ((hb2.cell (p := ⟨w.heap.size, 1, none⟩) hlw).trans e1) (Kd.R_below HO.out hb2) (by have := Kd.R_lower hv2 (show w.heap.size ≤ w1.heap.size by omega); rwa [allP_length] at this) (bstep' HB.out hb2) (Nat.lt_of_lt_of_le hlw hb2.size) hng (Cuts.refl bs) HV.out)
  rw [allP_length] at hv2 ⊢
  clear hv2 HO e0 e1 hlw HB hb2 hc2 hf2 hz2
  have e0 := HN0.out.e0
  have e1 := HN0.out.e1
  have hall : ∀ i ∈ allP n2, 0 ≤ i ∧ i < (n2 : Int) := fun i hi => allP_get hi
  have HA := Aside0.mk hall
  clear hall
  have HCi : ∀ {W : World}, kInt.R 3 W w.heap.size (fun _ => True) (.slice A3 n2 c3) (allP n2) → kInt.C W A3 n2 (allP n2) := fun h => by have := (Kd.R_reads' h).2.2; rwa [allP_length] at this
  have HCi := Aside0.mk (@HCi)
  by_cases hbad : 0 ≤ badP fs bs (allP n2)
  · have HE := Aside0.mk (any_of_bad (fs := fs) (bs := bs) (is := allP n2) (fun i hi => by have := HA.out i hi; omega) hbad)
    go_wp2_with (first | (go_at_call 59; refine (bad_c _ _ _ n2 n2 n _ _ _ fs (allP n2) bs _ (Kd.C_below H2.out HN0.out.B) (HCi.out HN0.out.S) HN0.out.C HA.out HF.out HV.out).mono ?_; rintro e w3 ⟨rfl, hb3⟩))
    go_ret2
    exact .inr ⟨rfl, ⟨bs, Cuts.refl bs, HE.out⟩, bstep' HN0.out.B hb3⟩
  · go_wp2_with (first | (go_at_call 59; refine (bad_c _ _ _ n2 n2 n _ _ _ fs (allP n2) bs _ (Kd.C_below H2.out HN0.out.B) (HCi.out HN0.out.S) HN0.out.C HA.out HF.out HV.out).mono ?_; rintro e w3 ⟨rfl, hb3⟩))
    have HN1 := Aside0.mk (HN0.out.below hb3)
    clear hb3 HN0 e0 e1 hbad
    go_loopg [6] (sz bs + 1) (fun k ch wr => ∃ l, Aside0 (NW w g n cap n2 c1 c2 c3 A1 A2 A3 bs fs l wr) ∧ ((ch = .bool true ∧ k = sz l + 1) ∨ (ch = .bool false ∧ Aside0 (Closed fs l))))
    case atStart => exact ⟨bs, HN1, .inl ⟨rfl, rfl⟩⟩
    case round =>
      obtain ⟨l, HN, ⟨rfl, hk⟩ | ⟨rfl, HCl⟩⟩ := hrel
      · obtain ⟨g1, rfl⟩ : ∃ u, u = gk := ⟨_, rfl⟩
        obtain ⟨wo, rfl⟩ : ∃ u, u = wr := ⟨_, rfl⟩
        have HK := Aside0.mk hk
        clear hk
        go_wp2_with fail
        go_loopg [6, 27] n (fun m ch cnt wr => ∃ (p : Nat) (l' : List Bx), p + m = n ∧ cnt = .int .i64 p ∧ Aside0 (NW w g n cap n2 c1 c2 c3 A1 A2 A3 bs fs l' wr) ∧ ((ch = .bool false ∧ Aside0 (l' = l ∧ ∀ q k, q < p → k < 4 → ClosedAt fs l q k)) ∨ (ch = .bool true ∧ sz l' < sz l)))
        case atStart => exact ⟨0, l, by omega, rfl, HN, .inl ⟨rfl, ⟨rfl, fun q k h => absurd h (Nat.not_lt_zero _)⟩⟩⟩
        case round =>
          obtain ⟨p, l1, hp, rfl, HN1, HD⟩ := hrel
          obtain ⟨g2, rfl⟩ : ∃ u, u = gk := ⟨_, rfl⟩
          obtain ⟨w4, rfl⟩ : ∃ u, u = wr := ⟨_, rfl⟩
          by_cases hlt : p < n
          · have e0 := HN1.out.e0
            have e1 := HN1.out.e1
            go_wp2_with (first | (go_at_call 60; refine (about_c _ _ n2 n2 _ _ fs (allP n2) (p : Int) _ (Kd.C_below H2.out HN1.out.B) (HCi.out HN1.out.S) HA.out (by omega)).mono ?_; rintro e w5 ⟨v5, rfl, hv5, hb5⟩))
            obtain ⟨A4, c4, rfl⟩ := Kd.R_slice hv5
            have HN2 := Aside0.mk (HN1.out.below hb5)
            have HM := Aside0.mk (Kd.R_lower hv5 (show w.heap.size ≤ w4.heap.size from HN1.out.B.size))
            have HMi := Aside0.mk (fun (i : Int) (hi : i ∈ (aboutP fs (p : Int) (allP n2))) => HA.out i (about_mem hi))
            clear hv5 hb5 e0 e1
            go_loopg [6, 35] 4 (fun m ch cnt wr => ∃ (k : Nat) (l' : List Bx), k + m = 4 ∧ cnt = .int .i64 k ∧ Aside0 (NW w g n cap n2 c1 c2 c3 A1 A2 A3 bs fs l' wr) ∧ Aside0 (kInt.R 3 wr w.heap.size (fun _ => True) (.slice A4 ((aboutP fs (p : Int) (allP n2))).length c4) (aboutP fs (p : Int) (allP n2))) ∧
              ((ch = .bool false ∧ Aside0 (l' = l ∧ (∀ q k, q < p → k < 4 → ClosedAt fs l q k) ∧ ∀ j, j < k → ClosedAt fs l p j)) ∨ (ch = .bool true ∧ sz l' < sz l)))
            case atStart => exact ⟨0, l1, by omega, rfl, HN2, HM, HD.imp (fun h => ⟨h.1, ⟨h.2.out.1, h.2.out.2, fun j hj => absurd hj (Nat.not_lt_zero _)⟩⟩) id⟩
            case round =>
              obtain ⟨k, l2, hk, rfl, HN3, HM3, HD3⟩ := hrel
              obtain ⟨g3, rfl⟩ : ∃ u, u = gk := ⟨_, rfl⟩
              obtain ⟨w6, rfl⟩ : ∃ u, u = wr := ⟨_, rfl⟩
              by_cases hlt2 : k < 4
              · have hk4 : decide ((k : Int) < 4) = true := by simp; omega
                go_wp2_with fail
                have hlw6 := HN3.out.lt
                generalize hhb : ((k : Int) % 2 == 1) = hb
                have HHB := Aside0.mk hhb
                clear hhb hk4
                go_loopg [6] (sz l2) (fun m ch wr => ∃ (l' : List Bx), m = sz l' ∧ Aside0 (NW w g n cap n2 c1 c2 c3 A1 A2 A3 bs fs l' wr) ∧ Aside0 (kInt.R 3 wr w.heap.size (fun _ => True) (.slice A4 ((aboutP fs (p : Int) (allP n2))).length c4) (aboutP fs (p : Int) (allP n2))) ∧
                  wr.cell? ⟨w6.heap.size, 0, none⟩ = some (.int .i64 (p : Int)) ∧ wr.cell? ⟨w6.heap.size, 1, none⟩ = some (.int .i64 ((k : Int) / 2)) ∧ wr.cell? ⟨w6.heap.size, 2, none⟩ = some (.bool hb) ∧ w6.heap.size < wr.heap.size ∧
                  ((ch = .bool false ∧ Aside0 (l' = l ∧ (∀ q k, q < p → k < 4 → ClosedAt fs l q k) ∧ ∀ j, j < k → ClosedAt fs l p j)) ∨ (ch = .bool true ∧ sz l' < sz l)))
                case atStart => exact ⟨l2, rfl, ⟨HN3.out.below (below_alloc (Below.refl _ _) _)⟩, ⟨Kd.R_below HM3.out (below_alloc (Below.refl _ _) _)⟩, by go_simp, by go_simp, by go_simp, by simp, HD3⟩
                case round =>
                  obtain ⟨l3, hm, HN4, HM4, s0, s1, s2, hs6, HD4⟩ := hrel
                  obtain ⟨g4, rfl⟩ : ∃ u, u = gk := ⟨_, rfl⟩
                  have HK4 := Aside0.mk hm
                  clear hm
                  have e0 := HN4.out.e0
                  have e1 := HN4.out.e1
                  have hlw := HN4.out.lt
                  have hv := HN4.out.valid
                  have hsl : (stripP l3 p k).length = n := by rw [stripP, List.length_set, HN4.out.len]
                  have HSL := Aside0.mk hsl
                  have hl3 := HN4.out.len
                  have hpl : p < l3.length := by omega
                  have hvp := hv (p : Int) (by omega) (by omega)
                  obtain ⟨sb1, sb2, sb3⟩ := span_bd k hvp
                  obtain ⟨_, gb6, gl6⟩ := R_own1 HN3.out.L (by omega)
                  have hne6 : w6.heap.size ≠ g := by omega
                  have HB := Aside0.mk HN4.out.B
                  have HAV := Aside0.mk (allValid_strip hv (k := k) hpl)
                  have HML := Aside0.mk (Kd.R_reads' HM4.out).2.2
                  clear hsl hl3 hv
                  have hp1 : (p : Int) < (n : Int) := by omega
                  by_cases hB : 0 ≤ badP fs (stripP l3 p k) (aboutP fs (p : Int) (allP n2))
                  · have HE := Aside0.mk (any_of_bad (fs := fs) (bs := stripP l3 p k) (is := (aboutP fs (p : Int) (allP n2))) (fun i hi => by have := HMi.out i hi; omega) hB)
                    go_wp2_with fail
                    go_region_held3 (fun w' => (∀ b o, b < wr.heap.size → w'.cell? ⟨b, o, none⟩ = wr.cell? ⟨b, o, none⟩) ∧ (∀ b o, b < wr.heap.size → w'.frozen? ⟨b, o, none⟩ = wr.frozen? ⟨b, o, none⟩) ∧ Below wr.heap.size wr w') (first | (go_split_ands; exact S_of_below (by repeat (first | (with_reducible exact Below.refl _ _) | (with_reducible exact HB.out) | (with_reducible assumption) | (with_reducible apply below_alloc) | (with_reducible apply below_drew) | (with_reducible apply pw_below_drewN) | (with_reducible refine bstep' ?_ (by assumption)) | ((with_reducible refine Below.setCell ?_ ?_ _); rotate_left; (first | (dsimp only; omega) | (simp; done) | (simp; omega) | omega)))))) ((first | (go_at_call 61; refine (strip_cb k _ n cap l3 p hb _ HHB.out (Kd.C_below HN4.out.C (by repeat (first | (with_reducible exact Below.refl _ _) | (with_reducible exact HB.out) | (with_reducible assumption) | (with_reducible apply below_alloc) | (with_reducible apply below_drew) | (with_reducible apply pw_below_drewN) | (with_reducible refine bstep' ?_ (by assumption)) | ((with_reducible refine Below.setCell ?_ ?_ _); rotate_left; (first | (dsimp only; omega) | (simp; done) | (simp; omega) | omega))))) hlt2 hlt (by omega)).mono ?_; rintro e w7 ⟨v7, rfl, hv7, hb7⟩; obtain ⟨A7, c7, rfl, _, hC7⟩ := Kd.R_reads hv7; rw [HSL.out] at hC7 ⊢; have HC7 := Aside0.mk hC7; clear hC7 hv7) | (go_at_call 59; refine (bad_c _ _ _ n2 _ n _ _ _ fs (aboutP fs (p : Int) (allP n2)) (stripP l3 p k) _ (Kd.C_below H2.out (by repeat (first | (with_reducible exact Below.refl _ _) | (with_reducible exact HB.out) | (with_reducible assumption) | (with_reducible apply below_alloc) | (with_reducible apply below_drew) | (with_reducible apply pw_below_drewN) | (with_reducible refine bstep' ?_ (by assumption)) | ((with_reducible refine Below.setCell ?_ ?_ _); rotate_left; (first | (dsimp only; omega) | (simp; done) | (simp; omega) | omega))))) (Kd.C_below HML.out (by repeat (first | (with_reducible exact Below.refl _ _) | (with_reducible exact HB.out) | (with_reducible assumption) | (with_reducible apply below_alloc) | (with_reducible apply below_drew) | (with_reducible apply pw_below_drewN) | (with_reducible refine bstep' ?_ (by assumption)) | ((with_reducible refine Below.setCell ?_ ?_ _); rotate_left; (first | (dsimp only; omega) | (simp; done) | (simp; omega) | omega))))) HC7.out HMi.out HF.out HAV.out).mono ?_; rintro e w8 ⟨rfl, hb8⟩)))
                    go_wp2_with fail
                    have hbW : Below wr.heap.size wr w8 := by (go_split_ands; assumption)
                    have HN5 := Aside0.mk (HN4.out.below hbW)
                    have HM5 := Aside0.mk (Kd.R_below HM4.out hbW)
                    have t0 := (hbW.cell (p := ⟨w6.heap.size, 0, none⟩) hs6).trans s0
                    have t1 := (hbW.cell (p := ⟨w6.heap.size, 1, none⟩) hs6).trans s1
                    have t2 := (hbW.cell (p := ⟨w6.heap.size, 2, none⟩) hs6).trans s2
                    have hs7 : w6.heap.size < w8.heap.size := Nat.lt_of_lt_of_le hs6 hbW.size
                    clear s0 s1 s2 hs6 hbW e0 e1 hlw HB hb7 hb8
                    rename (_ ∧ _ ∧ Below wr.heap.size wr w8) => hh1
                    clear hh1
                    (refine wp_region_quiet (C := fun w' => ∃ t : Later _, w' = t.w) (by kernel_rfl) (by kernel_rfl) (IsLater.drew _) ?_; (repeat (first | go_big_quiet_step ((go_at_call 62; exact later_same (of_c _ _ k _ hlt2))) | quiet_step ((go_at_call 62; exact later_same (of_c _ _ k _ hlt2))))); refine wpQuiet_nil ?_; rintro _ ⟨tq, rfl⟩)
                    have hq1 := tq.h
                    have HN6 := Aside0.mk (HN5.out.below hq1)
                    have HM6 := Aside0.mk (Kd.R_below HM5.out hq1)
                    have u0' := (hq1.cell (p := ⟨w6.heap.size, 0, none⟩) hs7).trans t0
                    have u1' := (hq1.cell (p := ⟨w6.heap.size, 1, none⟩) hs7).trans t1
                    have u2' := (hq1.cell (p := ⟨w6.heap.size, 2, none⟩) hs7).trans t2
                    have hs8 : w6.heap.size < tq.w.heap.size := Nat.lt_of_lt_of_le hs7 hq1.size
                    generalize tq.w = w9 at *
                    obtain ⟨b0, b1⟩ := span_cells (c := 0) HN6.out.C p k hlt
                    have gl9 := (R_own1 HN6.out.L (by omega)).2.2
                    clear t0 t1 t2 hs7 hq1
                    go_wp2_with fail
                    by_cases hEq : (spanOf (rBx l3 p) k).lo = (spanOf (rBx l3 p) k).hi
                    · have HSE := Aside0.mk (strip_eq hpl hlt2 hEq)
                      have hEq1 : ((spanOf (rBx l3 p) k).lo == (spanOf (rBx l3 p) k).hi) = true := by simp [hEq]
                      clear hEq
                      (refine wp_region_quiet (C := fun w' => ∃ t : Later _, w' = t.w) (by kernel_rfl) (by kernel_rfl) (IsLater.drew _) ?_; (repeat (first | go_big_quiet_step (fail) | quiet_step (fail))); refine wpQuiet_nil ?_; rintro _ ⟨tq, rfl⟩)
                      have hq2 := tq.h
                      go_wp2_with fail
                      go_ret2
                      exact .inr ⟨rfl, ⟨l3, HN6.out.cuts, HSE.out ▸ HE.out⟩, bstep' HN6.out.B hq2⟩
                    · have hEq1 : ((spanOf (rBx l3 p) k).lo == (spanOf (rBx l3 p) k).hi) = false := by simp [hEq]
                      have hLt : (spanOf (rBx l3 p) k).lo < (spanOf (rBx l3 p) k).hi := by omega
                      have HLt := Aside0.mk hLt
                      clear hEq
                      (refine wp_region_quiet (C := fun w' => ∃ t : Later _, w' = t.w) (by kernel_rfl) (by kernel_rfl) (IsLater.drew _) ?_; (repeat (first | go_big_quiet_step (fail) | quiet_step (fail))); refine wpQuiet_nil ?_; rintro _ ⟨tq, rfl⟩)
                      have hq2 := tq.h
                      have HN7 := Aside0.mk (HN6.out.below hq2)
                      have HM7 := Aside0.mk (Kd.R_below HM6.out hq2)
                      have x0 := (hq2.cell (p := ⟨w6.heap.size, 0, none⟩) hs8).trans u0'
                      have x1 := (hq2.cell (p := ⟨w6.heap.size, 1, none⟩) hs8).trans u1'
                      have x2 := (hq2.cell (p := ⟨w6.heap.size, 2, none⟩) hs8).trans u2'
                      have hs9 : w6.heap.size < tq.w.heap.size := Nat.lt_of_lt_of_le hs8 hq2.size
                      obtain ⟨y0, y1⟩ := span_cells (c := 0) HN7.out.C p k hlt
                      have hfz := (R_own1 HN7.out.L (by omega)).1
                      clear u0' u1' u2' hs8 hq2 b0 b1
                      cases hb with
                      | true =>
                        have hh := HHB.out
                        have HH := Aside0.mk hh
                        clear hh
                        go_wp2_with fail
                        have HC := Aside0.mk (HN7.out.cut hlt hlt2 hLt HE.out (j := offK k + 1) (by have := offK_lt k; omega) (enc_cut_hi hlt2 HH.out))
                        go_roundg (sz (cutP l3 p k))
                        case measure => have := HK4.out; have := sz_cut hpl HLt.out; omega
                        case rel => exact ⟨cutP l3 p k, rfl, ⟨by have h5 := HC.out; (try rw [← Nat.add_assoc] at h5); exact h5⟩, ⟨int_row_keep HM7.out HN7.out.L (grown_set _ _ _ _)⟩,
                          (World.cell?_of_block (Below.heap_setCell _ _ _ _ hne6)).trans x0, (World.cell?_of_block (Below.heap_setCell _ _ _ _ hne6)).trans x1, (World.cell?_of_block (Below.heap_setCell _ _ _ _ hne6)).trans x2, by simpa using hs9,
                          .inr ⟨rfl, by
                            have h6 := sz_cut hpl HLt.out
                            rcases HD4 with ⟨_, h⟩ | ⟨_, h⟩
                            · have h7 := h.out.1
                              rw [← h7]; omega
                            · omega⟩⟩
                      | false =>
                        have hh := HHB.out
                        have HH := Aside0.mk hh
                        clear hh
                        go_wp2_with fail
                        have HC := Aside0.mk (HN7.out.cut hlt hlt2 hLt HE.out (j := offK k) (by have := offK_lt k; omega) (enc_cut_lo hlt2 HH.out))
                        go_roundg (sz (cutP l3 p k))
                        case measure => have := HK4.out; have := sz_cut hpl HLt.out; omega
                        case rel => exact ⟨cutP l3 p k, rfl, ⟨by have h5 := HC.out; (try rw [← Nat.add_assoc] at h5); exact h5⟩, ⟨int_row_keep HM7.out HN7.out.L (grown_set _ _ _ _)⟩,
                          (World.cell?_of_block (Below.heap_setCell _ _ _ _ hne6)).trans x0, (World.cell?_of_block (Below.heap_setCell _ _ _ _ hne6)).trans x1, (World.cell?_of_block (Below.heap_setCell _ _ _ _ hne6)).trans x2, by simpa using hs9,
                          .inr ⟨rfl, by
                            have h6 := sz_cut hpl HLt.out
                            rcases HD4 with ⟨_, h⟩ | ⟨_, h⟩
                            · have h7 := h.out.1
                              rw [← h7]; omega
                            · omega⟩⟩
                  · go_wp2_with fail
                    go_region_held3 (fun w' => (∀ b o, b < wr.heap.size → w'.cell? ⟨b, o, none⟩ = wr.cell? ⟨b, o, none⟩) ∧ (∀ b o, b < wr.heap.size → w'.frozen? ⟨b, o, none⟩ = wr.frozen? ⟨b, o, none⟩) ∧ Below wr.heap.size wr w') (first | (go_split_ands; exact S_of_below (by repeat (first | (with_reducible exact Below.refl _ _) | (with_reducible exact HB.out) | (with_reducible assumption) | (with_reducible apply below_alloc) | (with_reducible apply below_drew) | (with_reducible apply pw_below_drewN) | (with_reducible refine bstep' ?_ (by assumption)) | ((with_reducible refine Below.setCell ?_ ?_ _); rotate_left; (first | (dsimp only; omega) | (simp; done) | (simp; omega) | omega)))))) ((first | (go_at_call 61; refine (strip_cb k _ n cap l3 p hb _ HHB.out (Kd.C_below HN4.out.C (by repeat (first | (with_reducible exact Below.refl _ _) | (with_reducible exact HB.out) | (with_reducible assumption) | (with_reducible apply below_alloc) | (with_reducible apply below_drew) | (with_reducible apply pw_below_drewN) | (with_reducible refine bstep' ?_ (by assumption)) | ((with_reducible refine Below.setCell ?_ ?_ _); rotate_left; (first | (dsimp only; omega) | (simp; done) | (simp; omega) | omega))))) hlt2 hlt (by omega)).mono ?_; rintro e w7 ⟨v7, rfl, hv7, hb7⟩; obtain ⟨A7, c7, rfl, _, hC7⟩ := Kd.R_reads hv7; rw [HSL.out] at hC7 ⊢; have HC7 := Aside0.mk hC7; clear hC7 hv7) | (go_at_call 59; refine (bad_c _ _ _ n2 _ n _ _ _ fs (aboutP fs (p : Int) (allP n2)) (stripP l3 p k) _ (Kd.C_below H2.out (by repeat (first | (with_reducible exact Below.refl _ _) | (with_reducible exact HB.out) | (with_reducible assumption) | (with_reducible apply below_alloc) | (with_reducible apply below_drew) | (with_reducible apply pw_below_drewN) | (with_reducible refine bstep' ?_ (by assumption)) | ((with_reducible refine Below.setCell ?_ ?_ _); rotate_left; (first | (dsimp only; omega) | (simp; done) | (simp; omega) | omega))))) (Kd.C_below HML.out (by repeat (first | (with_reducible exact Below.refl _ _) | (with_reducible exact HB.out) | (with_reducible assumption) | (with_reducible apply below_alloc) | (with_reducible apply below_drew) | (with_reducible apply pw_below_drewN) | (with_reducible refine bstep' ?_ (by assumption)) | ((with_reducible refine Below.setCell ?_ ?_ _); rotate_left; (first | (dsimp only; omega) | (simp; done) | (simp; omega) | omega))))) HC7.out HMi.out HF.out HAV.out).mono ?_; rintro e w8 ⟨rfl, hb8⟩)))
                    go_wp2_with fail
                    have hbW : Below wr.heap.size wr w8 := by (go_split_ands; assumption)
                    have HN5 := Aside0.mk (HN4.out.below hbW)
                    have HM5 := Aside0.mk (Kd.R_below HM4.out hbW)
                    have t0 := (hbW.cell (p := ⟨w6.heap.size, 0, none⟩) hs6).trans s0
                    have t1 := (hbW.cell (p := ⟨w6.heap.size, 1, none⟩) hs6).trans s1
                    have t2 := (hbW.cell (p := ⟨w6.heap.size, 2, none⟩) hs6).trans s2
                    have hs7 : w6.heap.size < w8.heap.size := Nat.lt_of_lt_of_le hs6 hbW.size
                    have HCl := Aside0.mk (closedAt_of_bad (fs := fs) (l := l3) (p := p) (k := k) (by rw [hl2]; omega))
                    go_roundg (g3 - 1)
                    case measure => omega
                    case rel => exact ⟨k + 1, l3, by omega, by go_num, HN5, HM5, HD4.imp (fun h => ⟨h.1, ⟨h.2.out.1, h.2.out.2.1, fun j hj => by
                      rcases Nat.lt_or_ge j k with h5 | h5
                      · exact h.2.out.2.2 j h5
                      · obtain rfl : j = k := by omega
                        exact h.2.out.1 ▸ HCl.out⟩⟩) id⟩
              · go_wp2_with fail
                go_roundg (g2 - 1)
                case measure => omega
                case rel => exact ⟨p + 1, l2, by omega, by go_num, HN3, HD3.imp (fun h => ⟨h.1, ⟨h.2.out.1, fun q j hq hj => by
                  rcases Nat.lt_or_ge q p with h5 | h5
                  · exact h.2.out.2.1 q j h5 hj
                  · obtain rfl : q = p := by omega
                    exact h.2.out.2.2 j (by omega)⟩⟩) id⟩
          · go_wp2_with fail
            rcases HD with ⟨rfl, h⟩ | ⟨rfl, h⟩
            · go_roundg 0
              case measure => have := HK.out; omega
              case rel => exact ⟨l1, HN1, .inr ⟨rfl, ⟨by
                obtain ⟨rfl, h5⟩ := h.out
                intro q j hq hj
                exact h5 q j (by rw [HN1.out.len] at hq; omega) hj⟩⟩⟩
            · go_roundg (sz l1 + 1)
              case measure => have := HK.out; omega
              case rel => exact ⟨l1, HN1, .inl ⟨rfl, rfl⟩⟩
      · go_wp2_with fail
        go_ret2
        exact .inl ⟨l, _, rfl, HN.out.L, ⟨HN.out.cuts, HCl.out⟩, HN.out.valid, HN.out.B⟩

end Go.Proofs.Ytkkimlicabbooaa

/-
  narrow and Narrow of package search.
-/
namespace Go.Proofs.Ytkkimlicabbooaa
open Go.RowKit Go.Proofs.YtkkimlicabbooaaW.PrintWords Bs
attribute [local go_sem] Later.cell? Later.frozen?
set_option linter.unusedVariables false
set_option linter.unusedSimpArgs false

set_option maxHeartbeats 3200000 in
set_option maxRecDepth 100000 in
theorem narrow_zero (A1 A2 : Option Addr) (c1 c2 : Nat) (w : World) (h1 : kBx.C w A1 0 []) (h2 : kFct.C w A2 0 []) :
    Calls Try.prog 35 #[.agg #[.slice A1 0 c1, .slice A2 0 c2]] w (NarrowPost w [] []) := by
  have H1 := Aside0.mk h1
  have H2 := Aside0.mk h2
  have HF := Aside0.mk (show AllFormed [] 0 from fun i h0 h => by simp at h; omega)
  have HV := Aside0.mk (show AllValid [] from fun i h0 h => by simp at h; omega)
  clear h1 h2
  go_enter Try.func35, Try.ntmps35
  go_wp2_with (first | (go_at_call 57; refine (cloneBx_c _ 0 _ [] _ (Kd.C_below H1.out (by repeat (first | (with_reducible exact Below.refl _ _) | (with_reducible exact HB.out) | (with_reducible apply below_alloc) | (with_reducible apply below_drew) | (with_reducible apply pw_below_drewN) | (with_reducible refine bstep' ?_ (by assumption)) | ((with_reducible refine Below.setCell ?_ ?_ _); rotate_left; (first | (dsimp only; omega) | (simp; done) | (simp; omega) | omega))))) (by omega)).mono ?_; rintro e w1 ⟨v1, rfl, hv1, hb1⟩; obtain ⟨hc1, hf1, hz1⟩ := bcell hb1; (try simp only [World.size_alloc, World.size_setCell, World.size_drew] at hz1)))
  have HO := Aside0.mk (Kd.R_lower hv1 (show w.heap.size ≤ _ by simp))
  obtain ⟨A, cap, rfl, _, hC⟩ := Kd.R_reads hv1
  have HC := Aside0.mk hC
  have hlw : w.heap.size < w1.heap.size := by omega
  have HB := Aside0.mk (show Below w.heap.size w w1 from (by repeat (first | (with_reducible exact Below.refl _ _) | (with_reducible exact HB.out) | (with_reducible assumption) | (with_reducible apply below_alloc) | (with_reducible apply below_drew) | (with_reducible apply pw_below_drewN) | (with_reducible refine bstep' ?_ (by assumption)) | ((with_reducible refine Below.setCell ?_ ?_ _); rotate_left; (first | (dsimp only; omega) | (simp; done) | (simp; omega) | omega)))))
  clear hb1 hv1 hC
  simp only [List.length_nil] at HO HC ⊢
  go_wp2_with (first | (go_at_call 58; refine (all_c _ 0 _ _ (by omega)).mono ?_; rintro e w2 ⟨v2, rfl, hv2, hb2⟩; obtain ⟨hc2, hf2, hz2⟩ := bcell hb2; (try simp only [World.size_alloc, World.size_setCell, World.size_drew] at hz2)))
  obtain ⟨A3, c3, rfl, _, hC⟩ := Kd.R_reads hv2
  have HC3 := Aside0.mk hC
  have HO2 := Aside0.mk (Kd.R_below HO.out hb2)
  have HCB := Aside0.mk (Kd.C_below HC.out hb2)
  have hlw2 : w.heap.size < w2.heap.size := by omega
  clear hv2 hC
  rw [allP_length] at HC3 ⊢
  have hbad : ¬ 0 ≤ badP [] [] (allP 0) := by decide
  go_wp2_with (first | (go_at_call 59; refine (bad_c _ _ _ 0 0 0 _ _ _ [] (allP 0) [] _ (Kd.C_below H2.out (by repeat (first | (with_reducible exact Below.refl _ _) | (with_reducible exact HB.out) | (with_reducible assumption) | (with_reducible apply below_alloc) | (with_reducible apply below_drew) | (with_reducible apply pw_below_drewN) | (with_reducible refine bstep' ?_ (by assumption)) | ((with_reducible refine Below.setCell ?_ ?_ _); rotate_left; (first | (dsimp only; omega) | (simp; done) | (simp; omega) | omega))))) HC3.out HCB.out (fun i hi => by simp [allP] at hi) HF.out HV.out).mono ?_; rintro e w3 ⟨rfl, hb3⟩))
  have HO3 := Aside0.mk (Kd.R_below HO2.out hb3)
  have HB3 := Aside0.mk (show Below w.heap.size w w3 from (by repeat (first | (with_reducible exact Below.refl _ _) | (with_reducible exact HB.out) | (with_reducible assumption) | (with_reducible apply below_alloc) | (with_reducible apply below_drew) | (with_reducible apply pw_below_drewN) | (with_reducible refine bstep' ?_ (by assumption)) | ((with_reducible refine Below.setCell ?_ ?_ _); rotate_left; (first | (dsimp only; omega) | (simp; done) | (simp; omega) | omega)))))
  clear hb2 hb3 hc1 hf1 hz1 hc2 hf2 hz2 HB
  go_loopg [6] 1 (fun k ch wr => Aside0 (kBx.R 42 wr w.heap.size (fun _ => True) (.slice A 0 cap) []) ∧ Aside0 (Below w.heap.size w wr) ∧ ((ch = .bool true ∧ k = 1) ∨ (ch = .bool false ∧ k = 0)))
  case atStart => exact ⟨HO3, HB3, .inl ⟨rfl, rfl⟩⟩
  case round =>
    obtain ⟨HO4, HB4, ⟨rfl, hk⟩ | ⟨rfl, hk⟩⟩ := hrel
    · obtain ⟨g1, rfl⟩ : ∃ u, u = gk := ⟨_, rfl⟩
      obtain ⟨w4, rfl⟩ : ∃ u, u = wr := ⟨_, rfl⟩
      go_wp2_with fail
      go_loopg [6, 27] 0 (fun k ch cnt wr => ch = .bool false ∧ cnt = .int .i64 0 ∧ Aside0 (kBx.R 42 wr w.heap.size (fun _ => True) (.slice A 0 cap) []) ∧ Aside0 (Below w.heap.size w wr))
      case atStart => exact ⟨rfl, rfl, HO4, HB4⟩
      case round =>
        obtain ⟨rfl, rfl, HO5, HB5⟩ := hrel
        go_wp2_with fail
        go_roundg 0
        case measure => omega
        case rel => exact ⟨HO5, HB5, .inr ⟨rfl, rfl⟩⟩
    · go_wp2_with fail
      go_ret2
      exact .inl ⟨[], _, rfl, HO4.out, ⟨Cuts.refl _, fun p k h => by simp at h⟩, HV.out, HB4.out⟩

theorem narrow_c (A1 A2 : Option Addr) (n n2 c1 c2 : Nat) (bs : List Bx) (fs : List Fct) (w : World) (h1 : kBx.C w A1 n bs) (h2 : kFct.C w A2 n2 fs) (hv : AllValid bs) (hf : AllFormed fs n) (hn1 : n ≤ 12) (hn2 : n2 ≤ 60) :
    Calls Try.prog 35 #[.agg #[.slice A1 n c1, .slice A2 n2 c2]] w (NarrowPost w bs fs) := by
  rcases Nat.eq_zero_or_pos n with hn | hn
  · subst hn
    have hb : bs = [] := List.eq_nil_of_length_eq_zero h1.1
    have hff : fs = [] := by
      rcases fs with _ | ⟨f, r⟩
      · rfl
      · have := (formed_in (hf 0 (by omega) (by simp))).1; omega
    subst hb hff
    obtain rfl : n2 = 0 := by have := h2.1; simpa using this.symm
    exact narrow_zero A1 A2 c1 c2 w h1 h2
  · exact narrow_pos A1 A2 n n2 c1 c2 bs fs w h1 h2 hv hf hn hn1 hn2

/-- What Check says of a problem that is valid. -/
theorem check_valid {bs : List Bx} {fs : List Fct} (h : checkP ⟨bs, fs⟩ = 0) : bs.length ≤ 12 ∧ fs.length ≤ 60 ∧ AllValid bs ∧ AllFormed fs bs.length := by
  obtain ⟨h1, h2, h3, h4⟩ := check_zero h
  refine ⟨h1, h2, fun i h0 hi => ?_, fun i h0 hi => ?_⟩
  · obtain ⟨q, rfl⟩ := Int.eq_ofNat_of_zero_le h0
    exact small_valid (h3 q (by show q < bs.length; omega))
  · obtain ⟨q, rfl⟩ := Int.eq_ofNat_of_zero_le h0
    exact h4 q (by show q < fs.length; omega)

def NarrowEx (w : World) (bs : List Bx) (fs : List Fct) (e : Ending) (w' : World) : Prop :=
  (checkP ⟨bs, fs⟩ ≠ 0 ∧ e = .returned (.tuple #[.slice none 0 0, .int .i64 (checkP ⟨bs, fs⟩)]) ∧ Below w.heap.size w w') ∨
  (checkP ⟨bs, fs⟩ = 0 ∧ ∃ l v, e = .returned (.tuple #[v, .int .i64 0]) ∧ kBx.R 42 w' w.heap.size (fun _ => True) v l ∧ NBox fs bs l ∧ AllValid l ∧ Below w.heap.size w w') ∨
  (checkP ⟨bs, fs⟩ = 0 ∧ e = .returned (.tuple #[.slice none 0 0, .int .i64 9]) ∧ NEmpty fs bs ∧ Below w.heap.size w w')

set_option maxHeartbeats 800000 in
theorem narrowEx_c (A1 A2 : Option Addr) (n n2 c1 c2 : Nat) (bs : List Bx) (fs : List Fct) (w : World) (h1 : kBx.C w A1 n bs) (h2 : kFct.C w A2 n2 fs) :
    Calls Try.prog 14 #[.agg #[.slice A1 n c1, .slice A2 n2 c2]] w (NarrowEx w bs fs) := by
  have H1 := Aside0.mk h1
  have H2 := Aside0.mk h2
  have hl1 := h1.1
  have hl2 := h2.1
  clear h1 h2
  by_cases hc : checkP ⟨bs, fs⟩ = 0
  · have HC := Aside0.mk hc
    obtain ⟨k1, k2, k3, k4⟩ := check_valid hc
    have K3 := Aside0.mk k3
    have K4 := Aside0.mk k4
    clear hc k3 k4
    go_enter Try.func14, Try.ntmps14
    go_wp2_with (first | (go_at_call 11; refine (check_c _ _ n n2 _ _ bs fs _ (Kd.C_below H1.out (by repeat (first | (with_reducible exact Below.refl _ _) | (with_reducible exact HB.out) | (with_reducible apply below_alloc) | (with_reducible apply below_drew) | (with_reducible apply pw_below_drewN) | (with_reducible refine bstep' ?_ (by assumption)) | ((with_reducible refine Below.setCell ?_ ?_ _); rotate_left; (first | (dsimp only; omega) | (simp; done) | (simp; omega) | omega))))) (Kd.C_below H2.out (by repeat (first | (with_reducible exact Below.refl _ _) | (with_reducible exact HB.out) | (with_reducible apply below_alloc) | (with_reducible apply below_drew) | (with_reducible apply pw_below_drewN) | (with_reducible refine bstep' ?_ (by assumption)) | ((with_reducible refine Below.setCell ?_ ?_ _); rotate_left; (first | (dsimp only; omega) | (simp; done) | (simp; omega) | omega)))))).mono ?_; rintro e w1 ⟨rfl, hb1⟩; obtain ⟨hc1, hf1, hz1⟩ := bcell hb1; (try simp only [World.size_alloc, World.size_setCell, World.size_drew] at hz1); have hlw1 : w.heap.size < w1.heap.size := (by omega); rw [HC.out]))
    rw [hl1] at k1
    rw [hl2] at k2
    rw [hl1] at K4
    refine (narrow_c _ _ n n2 _ _ bs fs _ (Kd.C_below H1.out (by repeat (first | (with_reducible exact Below.refl _ _) | (with_reducible exact HB.out) | (with_reducible assumption) | (with_reducible apply below_alloc) | (with_reducible apply below_drew) | (with_reducible apply pw_below_drewN) | (with_reducible refine bstep' ?_ (by assumption)) | ((with_reducible refine Below.setCell ?_ ?_ _); rotate_left; (first | (dsimp only; omega) | (simp; done) | (simp; omega) | omega))))) (Kd.C_below H2.out (by repeat (first | (with_reducible exact Below.refl _ _) | (with_reducible exact HB.out) | (with_reducible assumption) | (with_reducible apply below_alloc) | (with_reducible apply below_drew) | (with_reducible apply pw_below_drewN) | (with_reducible refine bstep' ?_ (by assumption)) | ((with_reducible refine Below.setCell ?_ ?_ _); rotate_left; (first | (dsimp only; omega) | (simp; done) | (simp; omega) | omega))))) K3.out K4.out k1 k2).mono ?_
    rintro e w2 (⟨l, v, rfl, hv, hN, hA, hb2⟩ | ⟨rfl, hE, hb2⟩)
    · have HR := Aside0.mk (Kd.R_lower hv (show w.heap.size ≤ _ by omega))
      have HN := Aside0.mk hN
      have HA := Aside0.mk hA
      clear hv hN hA
      go_wp2_with fail
      go_ret2
      exact .inr (.inl ⟨HC.out, l, v, rfl, HR.out, HN.out, HA.out, (by repeat (first | (with_reducible exact Below.refl _ _) | (with_reducible exact HB.out) | (with_reducible assumption) | (with_reducible apply below_alloc) | (with_reducible apply below_drew) | (with_reducible apply pw_below_drewN) | (with_reducible refine bstep' ?_ (by assumption)) | ((with_reducible refine Below.setCell ?_ ?_ _); rotate_left; (first | (dsimp only; omega) | (simp; done) | (simp; omega) | omega))))⟩)
    · have HE := Aside0.mk hE
      clear hE
      go_wp2_with fail
      go_ret2
      exact .inr (.inr ⟨HC.out, rfl, HE.out, (by repeat (first | (with_reducible exact Below.refl _ _) | (with_reducible exact HB.out) | (with_reducible assumption) | (with_reducible apply below_alloc) | (with_reducible apply below_drew) | (with_reducible apply pw_below_drewN) | (with_reducible refine bstep' ?_ (by assumption)) | ((with_reducible refine Below.setCell ?_ ?_ _); rotate_left; (first | (dsimp only; omega) | (simp; done) | (simp; omega) | omega))))⟩)
  · have hc1 : (checkP ⟨bs, fs⟩ != 0) = true := by simp [hc]
    have hc2 : (checkP ⟨bs, fs⟩ == 0) = false := by simp [hc]
    have HC := Aside0.mk hc
    clear hc
    go_enter Try.func14, Try.ntmps14
    go_wp2_with (first | (go_at_call 11; refine (check_c _ _ n n2 _ _ bs fs _ (Kd.C_below H1.out (by repeat (first | (with_reducible exact Below.refl _ _) | (with_reducible exact HB.out) | (with_reducible apply below_alloc) | (with_reducible apply below_drew) | (with_reducible apply pw_below_drewN) | (with_reducible refine bstep' ?_ (by assumption)) | ((with_reducible refine Below.setCell ?_ ?_ _); rotate_left; (first | (dsimp only; omega) | (simp; done) | (simp; omega) | omega))))) (Kd.C_below H2.out (by repeat (first | (with_reducible exact Below.refl _ _) | (with_reducible exact HB.out) | (with_reducible apply below_alloc) | (with_reducible apply below_drew) | (with_reducible apply pw_below_drewN) | (with_reducible refine bstep' ?_ (by assumption)) | ((with_reducible refine Below.setCell ?_ ?_ _); rotate_left; (first | (dsimp only; omega) | (simp; done) | (simp; omega) | omega)))))).mono ?_; rintro e w1 ⟨rfl, hb1⟩; obtain ⟨hc1, hf1, hz1⟩ := bcell hb1; (try simp only [World.size_alloc, World.size_setCell, World.size_drew] at hz1); have hlw1 : w.heap.size < w1.heap.size := (by omega)))
    go_ret2
    exact .inl ⟨HC.out, rfl, (by repeat (first | (with_reducible exact Below.refl _ _) | (with_reducible exact HB.out) | (with_reducible assumption) | (with_reducible apply below_alloc) | (with_reducible apply below_drew) | (with_reducible apply pw_below_drewN) | (with_reducible refine bstep' ?_ (by assumption)) | ((with_reducible refine Below.setCell ?_ ?_ _); rotate_left; (first | (dsimp only; omega) | (simp; done) | (simp; omega) | omega))))⟩

end Go.Proofs.Ytkkimlicabbooaa

/-
  parts of package search: the closure that joins two classes.
-/
namespace Go.Proofs.Ytkkimlicabbooaa
open Go.RowKit Go.Proofs.YtkkimlicabbooaaW.PrintWords Bs
attribute [local go_sem] Later.cell? Later.frozen?
set_option linter.unusedVariables false
set_option linter.unusedSimpArgs false

theorem grownBy_trans {a b c : World} {row : Option Nat} (h : a.grownBy b row) (k : b.grownBy c row) : a.grownBy c row :=
  ⟨k.os.trans h.os, k.tape.trans h.tape, k.output.trans h.output, Nat.le_trans h.size k.size, fun i hi hne => (k.block i (Nat.lt_of_lt_of_le hi h.size) hne).trans (h.block i hi hne)⟩
/-- One number of an own row is written. -/
theorem int_set {base g n cap : Nat} {ok : Nat → Prop} {W : World} {xs : List Int} (h : kInt.R 3 W base ok (.slice (some ⟨g, 0, none⟩) n cap) xs) (k : Nat) (x : Int) : kInt.R 3 (W.setCell ⟨g, k, none⟩ (.int .i64 x)) base ok (.slice (some ⟨g, 0, none⟩) n cap) (xs.set k x) := by
  have h5 := (Kd.R_putg (enc := Value.int .i64) (h1 := fun _ => rfl) h (k : Int) x).1
  simp only [Int.toNat_natCast] at h5
  exact h5
theorem int_at {base g n cap : Nat} {ok : Nat → Prop} {W : World} {xs : List Int} (h : kInt.R 3 W base ok (.slice (some ⟨g, 0, none⟩) n cap) xs) (i : Int) (h0 : 0 ≤ i) (h1 : i < n) : W.cell? ⟨g, i.toNat, none⟩ = some (.int .i64 (rInt xs i)) := by
  have hr := Kd.R_reads' h
  obtain ⟨_, _, he, _, e0⟩ := at_Int hr.2.2 i h0 (by have := hr.1; omega)
  cases he
  simpa using e0

set_option maxHeartbeats 3200000 in
theorem join_c (a b : Int) (x g n cap base : Nat) (xs : List Int) (w : World) (hc : w.cell? ⟨x, 0, none⟩ = some (.slice (some ⟨g, 0, none⟩) n cap)) (h : kInt.R 3 w base (fun _ => True) (.slice (some ⟨g, 0, none⟩) n cap) xs) (ha : 0 ≤ a ∧ a < n) (hb : 0 ≤ b ∧ b < n) (hx : x ≠ g) (hn : n ≤ 1000) :
    Calls Try.prog 74 #[.int .i64 a, .int .i64 b, .pointer (some ⟨x, 0, none⟩)] w fun e w' => e = .returned (.tuple #[]) ∧ kInt.R 3 w' base (fun _ => True) (.slice (some ⟨g, 0, none⟩) n cap) (joinP xs a b) ∧ w.grownBy w' (some g) := by
  have HO := Aside0.mk h
  have hl := (Kd.R_reads' h).1
  have a0 := int_at h a ha.1 ha.2
  have b0 := int_at h b hb.1 hb.2
  have hgx := World.block_lt_of_cell? _ _ hc
  have hgg := (R_own1 h (by omega)).2.2
  clear h
  go_enter Try.func74, Try.ntmps74
  go_wp2_with fail
  obtain ⟨F, hF⟩ : ∃ F, F = if rInt xs a < rInt xs b then rInt xs b else rInt xs a := ⟨_, rfl⟩
  obtain ⟨T, hT⟩ : ∃ T, T = if rInt xs b < rInt xs a then rInt xs b else rInt xs a := ⟨_, rfl⟩
  have HF := Aside0.mk hF
  have HT := Aside0.mk hT
  clear hF hT
  go_cut [5, 6] (fun p q W => p = .int .i64 F ∧ q = .int .i64 T ∧ Aside0 (Below w.heap.size w W))
  case first =>
    rcases Int.lt_trichotomy (rInt xs a) (rInt xs b) with h1 | h1 | h1
    · have h2 : ¬ rInt xs b < rInt xs a := by omega
      (refine wp_region_quiet (C := fun w' => ∃ t : Later _, w' = t.w) (by kernel_rfl) (by kernel_rfl) (IsLater.drew _) ?_; (repeat (first | go_big_quiet_step (fail) | quiet_step (fail))); refine wpQuiet_nil ?_; rintro _ ⟨tq, rfl⟩)
      have hq := tq.h
      go_wp2_with fail
      go_meet
      case rel => exact ⟨by rw [HF.out, if_pos (by omega)], by rw [HT.out, if_neg (by omega)], ⟨hq⟩⟩
    · have h2 : ¬ rInt xs b < rInt xs a := by omega
      have h3 : ¬ rInt xs a < rInt xs b := by omega
      have H1 := Aside0.mk h1
      clear h1
      (refine wp_region_quiet (C := fun w' => ∃ t : Later _, w' = t.w) (by kernel_rfl) (by kernel_rfl) (IsLater.drew _) ?_; (repeat (first | go_big_quiet_step (fail) | quiet_step (fail))); refine wpQuiet_nil ?_; rintro _ ⟨tq, rfl⟩)
      have hq := tq.h
      go_wp2_with fail
      go_meet
      case rel => exact ⟨by rw [HF.out, if_neg (by omega)], by rw [HT.out, if_neg (by omega)], ⟨hq⟩⟩
    · have h2 : ¬ rInt xs a < rInt xs b := by omega
      (refine wp_region_quiet (C := fun w' => ∃ t : Later _, w' = t.w) (by kernel_rfl) (by kernel_rfl) (IsLater.drew _) ?_; (repeat (first | go_big_quiet_step (fail) | quiet_step (fail))); refine wpQuiet_nil ?_; rintro _ ⟨tq, rfl⟩)
      have hq := tq.h
      go_wp2_with fail
      go_meet
      case rel => exact ⟨by rw [HF.out, if_neg (by omega)], by rw [HT.out, if_pos (by omega)], ⟨hq⟩⟩
  case rest =>
    obtain ⟨rfl, rfl, HB⟩ := hcut
    have hc2 := (HB.out.cell (p := ⟨x, 0, none⟩) hgx).trans hc
    have HO2 := Aside0.mk (Kd.R_below HO.out HB.out)
    have HG2 := Aside0.mk (show w.grownBy wc (some g) from grown_of_below HB.out _)
    clear hc a0 b0 HO HB
    have HJ := Aside0.mk (show joinP xs a b = xs.map (fun v => if v = F then T else v) by rw [HF.out, HT.out]; rfl)
    clear HF HT
    go_wp2_with fail
    go_loopg [28] n (fun m cnt wr => ∃ k : Nat, k + m = n ∧ cnt = .int .i64 k ∧ wr.cell? ⟨x, 0, none⟩ = some (.slice (some ⟨g, 0, none⟩) n cap) ∧ Aside0 (kInt.R 3 wr base (fun _ => True) (.slice (some ⟨g, 0, none⟩) n cap) ((xs.take k).map (fun v => if v = F then T else v) ++ xs.drop k)) ∧ Aside0 (w.grownBy wr (some g)))
    case atStart => exact ⟨0, by omega, rfl, hc2, ⟨by simpa using HO2.out⟩, HG2⟩
    case round =>
      clear hc2 HO2 HG2
      obtain ⟨k, hk, rfl, hc, HO, HG⟩ := hrel
      by_cases hlt : k < n
      · have e0 := int_at HO.out (k : Int) (by omega) (by omega)
        have hfz := (R_own1 HO.out (by omega)).1
        rw [rInt_nat, map_at (by omega)] at e0
        simp only [Int.toNat_natCast] at e0
        have hgx2 := World.block_lt_of_cell? _ _ hc
        by_cases hE : xs.getD k 0 = F
        · have hE1 : (xs.getD k 0 == F) = true := beq_iff_eq.2 hE
          have HS := Aside0.mk (int_set HO.out k T)
          have HM := Aside0.mk (show ((xs.take k).map (fun v => if v = F then T else v) ++ xs.drop k).set k T = (xs.take (k + 1)).map (fun v => if v = F then T else v) ++ xs.drop (k + 1) by have h7 := map_step (f := fun v => if v = F then T else v) (show k < xs.length by omega); simp only [hE, if_true] at h7; exact h7)
          clear hE
          generalize xs.getD k 0 = V at *
          go_wp2_with fail
          go_roundg (gk - 1)
          case measure => omega
          case rel => exact ⟨k + 1, by omega, by go_num, (World.cell?_of_block (Below.heap_setCell _ _ _ _ hx)).trans hc, ⟨by rw [← HM.out]; exact HS.out⟩, ⟨grownBy_trans HG.out (grown_set _ _ _ _)⟩⟩
        · have hE1 : (xs.getD k 0 == F) = false := beq_eq_false_iff_ne.2 hE
          have HM := Aside0.mk (show ((xs.take k).map (fun v => if v = F then T else v) ++ xs.drop k) = (xs.take (k + 1)).map (fun v => if v = F then T else v) ++ xs.drop (k + 1) by
            rw [take_get (z := 0) (show k < xs.length by omega), drop_get (z := 0) (show k < xs.length by omega), List.map_append, List.append_assoc]; simp only [List.map_cons, List.map_nil, if_neg hE]; rfl)
          clear hE
          generalize xs.getD k 0 = V at *
          go_wp2_with fail
          go_roundg (gk - 1)
          case measure => omega
          case rel => exact ⟨k + 1, by omega, by go_num, hc, ⟨by rw [← HM.out]; exact HO.out⟩, HG⟩
      · obtain rfl : k = n := by omega
        go_wp2_with fail
        go_end0
        exact ⟨rfl, by rw [HJ.out]; have h7 := HO.out; rwa [List.take_of_length_le (by omega), List.drop_of_length_le (by omega), List.append_nil] at h7, HG.out⟩

end Go.Proofs.Ytkkimlicabbooaa

/-
  parts of package search.
-/
namespace Go.Proofs.Ytkkimlicabbooaa
open Go.RowKit Go.Proofs.YtkkimlicabbooaaW.PrintWords Bs
attribute [local go_sem] Later.cell? Later.frozen?
set_option linter.unusedVariables false
set_option linter.unusedSimpArgs false

abbrev kRows : Kd (List Int) := Kd.slice 3 kInt
theorem infoRow : (Try.prog.info? 52).map (fun i => (i.zero, i.size, i.bytes)) = some (some (.slice none 0 0), 1, 24) := by kernel_rfl
theorem cell_grown {w w1 : World} {row : Option Nat} {a : Addr} {v : Value} (hg : w.grownBy w1 row) (hc : w.cell? a = some v) (hne : some a.block ≠ row) : w1.cell? a = some v :=
  (World.cell?_of_block (hg.block a.block (World.block_lt_of_cell? _ _ hc) hne)).trans hc
theorem ok_one {e base g n cap : Nat} {W : World} {xs : List Int} (h : kInt.R e W base (fun _ => True) (.slice (some ⟨g, 0, none⟩) n cap) xs) : kInt.R e W base (fun k => k = g) (.slice (some ⟨g, 0, none⟩) n cap) xs :=
  ⟨fun k hk => by simp [Value.ownBlock] at hk; exact hk.symm, h.2.imp_ (fun _ _ hp => hp)⟩

/-- The state of parts: the classes gl in block g, which block X names; the problem's box. -/
structure PG (w : World) (X g n cap n2 c2 : Nat) (A2 : Option Addr) (gl : List Int) (W : World) : Prop where
  c0 : W.cell? ⟨X, 0, none⟩ = some (.slice (some ⟨g, 0, none⟩) n cap)
  e1 : W.cell? ⟨w.heap.size, 1, none⟩ = some (.slice A2 n2 c2)
  R : kInt.R 3 W w.heap.size (fun _ => True) (.slice (some ⟨g, 0, none⟩) n cap) gl
  B : Below w.heap.size w W
  xg : X ≠ g
  wg : w.heap.size ≠ g
section
variable {w : World} {X g n cap n2 c2 : Nat} {A2 : Option Addr} {gl : List Int} {W W2 : World}
theorem PG.ltx (h : PG w X g n cap n2 c2 A2 gl W) : X < W.heap.size := World.block_lt_of_cell? _ _ h.c0
theorem PG.ltw (h : PG w X g n cap n2 c2 A2 gl W) : w.heap.size < W.heap.size := World.block_lt_of_cell? _ _ h.e1
theorem PG.len (h : PG w X g n cap n2 c2 A2 gl W) : gl.length = n := (Kd.R_reads' h.R).1.symm
theorem PG.below (h : PG w X g n cap n2 c2 A2 gl W) (hb : Below W.heap.size W W2) : PG w X g n cap n2 c2 A2 gl W2 :=
  ⟨(hb.cell (p := ⟨X, 0, none⟩) h.ltx).trans h.c0, (hb.cell (p := ⟨w.heap.size, 1, none⟩) h.ltw).trans h.e1, Kd.R_below h.R hb, bstep' h.B hb, h.xg, h.wg⟩
theorem PG.set (h : PG w X g n cap n2 c2 A2 gl W) (hn : 0 < n) (k : Nat) (x : Int) : PG w X g n cap n2 c2 A2 (gl.set k x) (W.setCell ⟨g, k, none⟩ (.int .i64 x)) :=
  ⟨(World.cell?_of_block (Below.heap_setCell _ _ _ _ h.xg)).trans h.c0, (World.cell?_of_block (Below.heap_setCell _ _ _ _ h.wg)).trans h.e1, int_set h.R k x, h.B.setCell (R_own1 h.R hn).2.1 _, h.xg, h.wg⟩
theorem PG.join (h : PG w X g n cap n2 c2 A2 gl W) (hn : 0 < n) {gl2 : List Int} (hr : kInt.R 3 W2 w.heap.size (fun _ => True) (.slice (some ⟨g, 0, none⟩) n cap) gl2) (hg : W.grownBy W2 (some g)) : PG w X g n cap n2 c2 A2 gl2 W2 :=
  ⟨cell_grown hg h.c0 (fun e => h.xg (by injection e)), cell_grown hg h.e1 (fun e => h.wg (by injection e)), hr, h.B.grown hg h.B.size (fun k hk => by injection hk with hk; subst hk; exact (R_own1 h.R hn).2.1), h.xg, h.wg⟩
theorem PG.other (h : PG w X g n cap n2 c2 A2 gl W) {row : Option Nat} (hg : W.grownBy W2 row) (hb : Below w.heap.size w W2) (h1 : row ≠ some g) (h2 : row ≠ some X) (h3 : row ≠ some w.heap.size) : PG w X g n cap n2 c2 A2 gl W2 :=
  ⟨cell_grown hg h.c0 (fun e => h2 e.symm), cell_grown hg h.e1 (fun e => h3 e.symm), Kd.R_mono (Kd.R_grown (ok_one h.R) hg (fun k hk e => h1 (by rw [← e, hk]))) (fun _ _ => trivial), hb, h.xg, h.wg⟩
end

set_option maxHeartbeats 3200000 in
set_option maxRecDepth 100000 in
theorem parts_pos (A1 A2 : Option Addr) (n n2 c1 c2 : Nat) (fs : List Fct) (w : World) (h2 : kFct.C w A2 n2 fs) (hf : AllFormed fs n) (hn : 0 < n) (hn1 : n ≤ 12) (hn2 : n2 ≤ 60) :
    Calls Try.prog 64 #[.agg #[.slice A1 n c1, .slice A2 n2 c2]] w fun e w' => ∃ v, e = .returned v ∧ kRows.R 52 w' w.heap.size (fun _ => True) v (partsP fs n) ∧ Below w.heap.size w w' := by
  have H2 := Aside0.mk h2
  have HF := Aside0.mk hf
  have hl2 := h2.1
  clear h2 hf
  go_enter Try.func64, Try.ntmps64
  go_wp2_with (first | ((with_reducible refine gate_dst (N := 15) rfl ?_); refine Kd.R_make kInt _ 3 rfl (N := 15) rfl 52 _ _ rfl (n : Int) rfl rfl Try.underlying52 (.int .i64 0) 8 infoInt rfl (by decide) (by omega) 0 (ok := fun _ => True) (okp := fun _ => True) rfl (fun _ hk => hk) trivial (by omega) (by simp; omega) (Below.refl _ _) (Nat.le_refl _) ?_; intro v1 w1 hv1 hb1 hg1 _; have HO1 := Aside0.mk (Kd.R_lower hv1 (show w.heap.size ≤ _ by simp)); have HG1 := Aside0.mk hg1; have hs1 := Kd.R_form hv1 (by simp; omega); clear hv1 hg1; obtain ⟨g, cap, rfl, gb, gl, _⟩ := hs1))
  simp only [Int.toNat_natCast] at HO1
  obtain ⟨X, hX⟩ : ∃ X, X = w1.heap.size := ⟨_, rfl⟩
  have HX := Aside0.mk hX
  have hxg : X ≠ g := by omega
  have hwg : w.heap.size ≠ g := by simp at gb; omega
  have hlw : w.heap.size < w1.heap.size := by have := hb1.size; simp at this; omega
  have e1' : w1.cell? ⟨w.heap.size, 1, none⟩ = some (.slice A2 n2 c2) := cell_grown HG1.out (by go_simp) (by simp)
  have HP0 := Aside0.mk (show PG w X g n cap n2 c2 A2 (allP 0 ++ List.replicate n 0) (w1.alloc (.cells #[.slice (some ⟨g, 0, none⟩) n cap] 52)) from ⟨by rw [HX.out]; go_simp, by go_simp, by simpa [allP] using Kd.R_below HO1.out (below_alloc (Below.refl _ _) _), (by repeat (first | (with_reducible exact Below.refl _ _) | (with_reducible exact HB.out) | (with_reducible assumption) | (with_reducible apply below_alloc) | (with_reducible apply below_drew) | (with_reducible apply pw_below_drewN) | (with_reducible refine bstep' ?_ (by assumption)) | ((with_reducible refine Below.setCell ?_ ?_ _); rotate_left; (first | (dsimp only; omega) | (simp; done) | (simp; omega) | omega)))), hxg, hwg⟩)
  rw [← hX]
  clear hX hlw e1' HO1 HG1 hb1 gl gb
  go_loopg [18] n (fun m cnt wr => ∃ k : Nat, k + m = n ∧ cnt = .int .i64 k ∧ Aside0 (PG w X g n cap n2 c2 A2 (allP k ++ List.replicate m 0) wr))
  case atStart => exact ⟨0, by omega, rfl, HP0⟩
  case round =>
    clear HP0
    obtain ⟨k, hk, rfl, HP⟩ := hrel
    have c0 := HP.out.c0
    by_cases hlt : k < n
    · have e0 := int_at HP.out.R (k : Int) (by omega) (by omega)
      simp only [Int.toNat_natCast] at e0
      have hfz := (R_own1 HP.out.R hn).1
      go_wp2_with fail
      go_roundg (gk - 1)
      case measure => omega
      case rel => exact ⟨k + 1, by omega, by go_num, ⟨by rw [← allP_set (by omega)]; exact HP.out.set hn k (k : Int)⟩⟩
    · obtain rfl : gk = 0 := by omega
      obtain rfl : n = k := by omega
      rw [List.replicate_zero, List.append_nil] at HP
      have e1 := HP.out.e1
      go_wp2_with fail
      obtain ⟨wo, rfl⟩ : ∃ u, u = wr := ⟨_, rfl⟩
      go_loopg [30] n2 (fun m cnt wr => ∃ k : Nat, k + m = n2 ∧ cnt = .int .i64 k ∧ Aside0 (PG w X g n cap n2 c2 A2 ((fs.take k).foldl joinFact (allP n)) wr))
      case atStart => exact ⟨0, by omega, rfl, HP⟩
      case round =>
        clear HP c0 e1
        obtain ⟨k, hk, rfl, HP⟩ := hrel
        have c0 := HP.out.c0
        have e1 := HP.out.e1
        have hlw := HP.out.ltw
        have hlx := HP.out.ltx
        by_cases hlt : k < n2
        · obtain ⟨b, off, rfl, hb, f0, f1, f2, f3, f4, f5, f6, f7, f8⟩ := at_Fct (Kd.C_below H2.out HP.out.B) (k : Int) (by omega) (by omega)
          simp only [Int.toNat_natCast] at f0 f1 f2 f3 f4 f5 f6 f7 f8
          obtain ⟨⟨fa1, fa2⟩, ⟨fb1, fb2⟩, _, fc, _⟩ := formed_in (HF.out (k : Int) (by omega) (by omega))
          have hS := Aside0.mk (foldl_step (f := joinFact) (b := allP n) (l := fs) (k := k) (z := ⟨0, 0, false, 0, 0, 0, ⟨0, 0⟩, 0⟩) (by omega))
          rw [← rFct_nat] at hS
          have hgs := (R_own1 HP.out.R hn).2.2
          have hlx1 : X < wr.heap.size + 1 := by omega
          by_cases hk2 : (rFct fs (k : Int)).kind = 2
          · obtain ⟨fc1, fc2, _, _⟩ := fc hk2
            have hkb : ((rFct fs (k : Int)).kind == 2) = true := by simp [hk2]
            have HJ := Aside0.mk (show joinFact ((fs.take k).foldl joinFact (allP n)) (rFct fs (k : Int)) = joinP (joinP ((fs.take k).foldl joinFact (allP n)) (rFct fs (k : Int)).a (rFct fs (k : Int)).b) (rFct fs (k : Int)).a (rFct fs (k : Int)).c by rw [joinFact, if_pos hk2])
            clear hk2
            go_wp2_with (fail)
            refine (join_c _ _ X g n cap w.heap.size _ _ (HP.out.below (by repeat (first | (with_reducible exact Below.refl _ _) | (with_reducible exact HB.out) | (with_reducible assumption) | (with_reducible apply below_alloc) | (with_reducible apply below_drew) | (with_reducible apply pw_below_drewN) | (with_reducible refine bstep' ?_ (by assumption)) | ((with_reducible refine Below.setCell ?_ ?_ _); rotate_left; (first | (dsimp only; omega) | (simp; done) | (simp; omega) | omega))))).c0 (HP.out.below (by repeat (first | (with_reducible exact Below.refl _ _) | (with_reducible exact HB.out) | (with_reducible assumption) | (with_reducible apply below_alloc) | (with_reducible apply below_drew) | (with_reducible apply pw_below_drewN) | (with_reducible refine bstep' ?_ (by assumption)) | ((with_reducible refine Below.setCell ?_ ?_ _); rotate_left; (first | (dsimp only; omega) | (simp; done) | (simp; omega) | omega))))).R ⟨fa1, fa2⟩ ⟨fb1, fb2⟩ hxg (by omega)).mono ?_
            rintro e w2 ⟨rfl, hr2, hg2⟩
            have HP2 := Aside0.mk (PG.join (HP.out.below (by repeat (first | (with_reducible exact Below.refl _ _) | (with_reducible exact HB.out) | (with_reducible assumption) | (with_reducible apply below_alloc) | (with_reducible apply below_drew) | (with_reducible apply pw_below_drewN) | (with_reducible refine bstep' ?_ (by assumption)) | ((with_reducible refine Below.setCell ?_ ?_ _); rotate_left; (first | (dsimp only; omega) | (simp; done) | (simp; omega) | omega))))) hn hr2 hg2)
            have q1 := cell_grown hg2 (a := ⟨wr.heap.size, 1, none⟩) (v := .int .i64 (rFct fs (k : Int)).kind) (by go_simp) (by simp; omega)
            have q3 := cell_grown hg2 (a := ⟨wr.heap.size, 3, none⟩) (v := .int .i64 (rFct fs (k : Int)).a) (by go_simp) (by simp; omega)
            have q5 := cell_grown hg2 (a := ⟨wr.heap.size, 5, none⟩) (v := .int .i64 (rFct fs (k : Int)).c) (by go_simp) (by simp; omega)
            have p0 := HP2.out.c0
            have hq2 : wr.heap.size < w2.heap.size := World.block_lt_of_cell? _ _ q1
            have hq3 := HP2.out.ltx
            clear hr2 hg2 f0 f1 f2 f3 f4 f5 f6 f7 f8 HP c0 e1
            go_wp2_with (fail)
            refine (join_c _ _ X g n cap w.heap.size _ _ HP2.out.c0 HP2.out.R ⟨fa1, fa2⟩ ⟨fc1, fc2⟩ hxg (by omega)).mono ?_
            rintro e w3 ⟨rfl, hr3, hg3⟩
            have HP3 := Aside0.mk (PG.join HP2.out hn hr3 hg3)
            clear hr3 hg3 HP2
            go_wp2_with (fail)
            go_roundg (gk - 1)
            case measure => omega
            case rel => exact ⟨k + 1, by omega, by go_num, ⟨by rw [hS.out, HJ.out]; exact HP3.out⟩⟩
          · have hkb : ((rFct fs (k : Int)).kind == 2) = false := by simp [hk2]
            have HJ := Aside0.mk (show joinFact ((fs.take k).foldl joinFact (allP n)) (rFct fs (k : Int)) = joinP ((fs.take k).foldl joinFact (allP n)) (rFct fs (k : Int)).a (rFct fs (k : Int)).b by rw [joinFact, if_neg hk2])
            clear hk2
            go_wp2_with (fail)
            refine (join_c _ _ X g n cap w.heap.size _ _ (HP.out.below (by repeat (first | (with_reducible exact Below.refl _ _) | (with_reducible exact HB.out) | (with_reducible assumption) | (with_reducible apply below_alloc) | (with_reducible apply below_drew) | (with_reducible apply pw_below_drewN) | (with_reducible refine bstep' ?_ (by assumption)) | ((with_reducible refine Below.setCell ?_ ?_ _); rotate_left; (first | (dsimp only; omega) | (simp; done) | (simp; omega) | omega))))).c0 (HP.out.below (by repeat (first | (with_reducible exact Below.refl _ _) | (with_reducible exact HB.out) | (with_reducible assumption) | (with_reducible apply below_alloc) | (with_reducible apply below_drew) | (with_reducible apply pw_below_drewN) | (with_reducible refine bstep' ?_ (by assumption)) | ((with_reducible refine Below.setCell ?_ ?_ _); rotate_left; (first | (dsimp only; omega) | (simp; done) | (simp; omega) | omega))))).R ⟨fa1, fa2⟩ ⟨fb1, fb2⟩ hxg (by omega)).mono ?_
            rintro e w2 ⟨rfl, hr2, hg2⟩
            have HP2 := Aside0.mk (PG.join (HP.out.below (by repeat (first | (with_reducible exact Below.refl _ _) | (with_reducible exact HB.out) | (with_reducible assumption) | (with_reducible apply below_alloc) | (with_reducible apply below_drew) | (with_reducible apply pw_below_drewN) | (with_reducible refine bstep' ?_ (by assumption)) | ((with_reducible refine Below.setCell ?_ ?_ _); rotate_left; (first | (dsimp only; omega) | (simp; done) | (simp; omega) | omega))))) hn hr2 hg2)
            have q1 := cell_grown hg2 (a := ⟨wr.heap.size, 1, none⟩) (v := .int .i64 (rFct fs (k : Int)).kind) (by go_simp) (by simp; omega)
            clear hr2 hg2 f0 f1 f2 f3 f4 f5 f6 f7 f8 HP c0 e1
            go_wp2_with (fail)
            go_roundg (gk - 1)
            case measure => omega
            case rel => exact ⟨k + 1, by omega, by go_num, ⟨by rw [hS.out, HJ.out]; exact HP2.out⟩⟩
        · obtain rfl : gk = 0 := by omega
          obtain rfl : n2 = k := by omega
          rw [List.take_of_length_le (by omega)] at HP
          go_wp2_with fail
          obtain ⟨wp, rfl⟩ : ∃ u, u = wr := ⟨_, rfl⟩
          obtain ⟨G, hG⟩ : ∃ G, G = groupP fs n := ⟨_, rfl⟩
          have HG := Aside0.mk hG
          rw [show (fs.foldl joinFact (allP n)) = G from hG.symm] at HP
          have hgl : G.length = n := by rw [hG]; exact groupP_length _ _
          clear hG c0 e1 H2 HF hl2
          have c0 := HP.out.c0
          have hgB := (R_own1 HP.out.R hn).2.2
          have hgb := (R_own1 HP.out.R hn).2.1
          have hlx := HP.out.ltx
          have hlw := HP.out.ltw
          obtain ⟨B0, hB0⟩ : ∃ B, B = wp.heap.size := ⟨_, rfl⟩
          rw [← hB0] at hgB hlx hlw
          have hle0 : B0 ≤ wp.heap.size := by omega
          clear hB0
          go_wp2_with fail
          go_loopg [8, 52] n (fun m v cnt wr => ∃ k : Nat, k + m = n ∧ cnt = .int .i64 k ∧ Aside0 (PG w X g n cap n2 c2 A2 G wr) ∧ Aside0 (kRows.R 52 wr w.heap.size (fun j => B0 ≤ j) v (partsTo G k)) ∧ B0 ≤ wr.heap.size)
          case atStart => exact ⟨0, by omega, rfl, HP, ⟨Kd.R_nil _ _ _ _ _⟩, hle0⟩
          case round =>
            clear HP c0 hle0
            obtain ⟨k, hk, rfl, HP, HO, hle⟩ := hrel
            have c0 := HP.out.c0
            by_cases hlt : k < n
            · have e0 := int_at HP.out.R (k : Int) (by omega) (by omega)
              simp only [Int.toNat_natCast] at e0
              obtain ⟨g1, rfl⟩ : ∃ u, u = gk := ⟨_, rfl⟩
              obtain ⟨w3, rfl⟩ : ∃ u, u = wr := ⟨_, rfl⟩
              cases hE : (rInt G (k : Int) == (k : Int)) with
              | false =>
                have hE1 : (rInt G (k : Int) != (k : Int)) = true := by simp [bne, hE]
                have HE := Aside0.mk hE
                clear hE
                go_wp2_with fail
                go_roundg (g1 - 1)
                case measure => omega
                case rel => exact ⟨k + 1, by omega, by go_num, HP, ⟨by rw [partsTo_f HE.out]; exact HO.out⟩, hle⟩
              | true =>
                have hE1 : (rInt G (k : Int) != (k : Int)) = false := by simp [bne, hE]
                have HE := Aside0.mk hE
                clear hE
                have hlen : (partsTo G k).length ≤ k := partsTo_length _ _
                have hbo : ∀ j, u8.ownBlock = some j → j < w3.heap.size := fun j hj => ((Kd.R_bound HO.out).1 j hj).2.2.1
                have HBO := Aside0.mk hbo
                clear hbo
                go_wp2_with fail
                go_loopg [10, 63] n (fun m v cnt wr => ∃ j : Nat, j + m = n ∧ cnt = .int .i64 j ∧ Aside0 (kInt.R 3 wr w3.heap.size (fun _ => True) v (memTo G k j)) ∧ Aside0 (Below w3.heap.size w3 wr))
                case atStart => exact ⟨0, by omega, rfl, ⟨Kd.R_nil _ _ _ _ _⟩, ⟨Below.refl _ _⟩⟩
                case round =>
                  obtain ⟨j, hj, rfl, HM, HB⟩ := hrel
                  have HP4 := Aside0.mk (HP.out.below HB.out)
                  have c4 := HP4.out.c0
                  by_cases hltj : j < n
                  · have e4 := int_at HP4.out.R (j : Int) (by omega) (by omega)
                    simp only [Int.toNat_natCast] at e4
                    have hlj : (memTo G k j).length ≤ j := memTo_length _ _ _
                    cases hF : (rInt G (j : Int) == (k : Int)) with
                    | true =>
                      have HF := Aside0.mk hF
                      go_wp2_with (first | (at_builtin; refine Kd.R_append kInt (w0 := w3) w3.heap.size rfl _ _ 52 3 (.int .i64 0) 8 rfl Try.underlying52 infoInt rfl (by decide) (by omega) u10 (memTo G k j) (j : Int) [.int .i64 j] (fun _ => True) (fun _ => False) rfl rfl rfl (fun _ h => h.elim) (fun _ _ => trivial) (Kd.R_below HM.out (by repeat (first | (with_reducible exact Below.refl _ _) | (with_reducible exact HB.out) | (with_reducible assumption) | (with_reducible apply below_alloc) | (with_reducible apply below_drew) | (with_reducible apply pw_below_drewN) | (with_reducible refine bstep' ?_ (by assumption)) | ((with_reducible refine Below.setCell ?_ ?_ _); rotate_left; (first | (dsimp only; omega) | (simp; done) | (simp; omega) | omega))))) (by repeat (first | (with_reducible exact Below.refl _ _) | (with_reducible exact HB.out) | (with_reducible assumption) | (with_reducible apply below_alloc) | (with_reducible apply below_drew) | (with_reducible apply pw_below_drewN) | (with_reducible refine bstep' ?_ (by assumption)) | ((with_reducible refine Below.setCell ?_ ?_ _); rotate_left; (first | (dsimp only; omega) | (simp; done) | (simp; omega) | omega)))) ?aS ?aL ?_; (case aS => exact (Below.size (show Below w3.heap.size w3 _ from (by repeat (first | (with_reducible exact Below.refl _ _) | (with_reducible exact HB.out) | (with_reducible assumption) | (with_reducible apply below_alloc) | (with_reducible apply below_drew) | (with_reducible apply pw_below_drewN) | (with_reducible refine bstep' ?_ (by assumption)) | ((with_reducible refine Below.setCell ?_ ?_ _); rotate_left; (first | (dsimp only; omega) | (simp; done) | (simp; omega) | omega))))))); (case aL => omega); intro v1 w9 hv1 hb9 _ _))
                      go_roundg (gk - 1)
                      case measure => omega
                      case rel => exact ⟨j + 1, by omega, by go_num, ⟨by rw [memTo_t HF.out]; exact hv1⟩, ⟨hb9⟩⟩
                    | false =>
                      have HF := Aside0.mk hF
                      go_wp2_with fail
                      go_roundg (gk - 1)
                      case measure => omega
                      case rel => exact ⟨j + 1, by omega, by go_num, ⟨by rw [memTo_f HF.out]; exact HM.out⟩, HB⟩
                  · obtain rfl : gk = 0 := by omega
                    obtain rfl : n = j := by omega
                    have HO4 := Aside0.mk (Kd.R_below HO.out HB.out)
                    have hle4 := HB.out.size
                    have HBL := Aside0.mk (HO.out.1)
                    have hBw := HP4.out.B
                    clear HO
                    obtain ⟨A10, c10, rfl, _, _⟩ := Kd.R_reads HM.out
                    go_wp2_with (first | (at_builtin; refine Kd.R_append kRows (w0 := w) w.heap.size rfl _ _ 106 52 (.slice none 0 0) 24 rfl Try.underlying106 infoRow rfl (by decide) (by omega) u8 (partsTo G k) (memTo G k n) [.slice A10 (memTo G k n).length c10] (fun j => B0 ≤ j) (fun j => w3.heap.size ≤ j) rfl rfl ⟨_, rfl, Kd.R_lower (Kd.R_mono (Kd.R_bound HM.out) (fun _ h => h.2.1)) (by omega)⟩ (fun j hj => ⟨by omega, fun h => by have := HBO.out j h.symm; omega⟩) (fun j hj => by omega) (Kd.R_below HO4.out (by repeat (first | (with_reducible exact Below.refl _ _) | (with_reducible exact HB.out) | (with_reducible assumption) | (with_reducible apply below_alloc) | (with_reducible apply below_drew) | (with_reducible apply pw_below_drewN) | (with_reducible refine bstep' ?_ (by assumption)) | ((with_reducible refine Below.setCell ?_ ?_ _); rotate_left; (first | (dsimp only; omega) | (simp; done) | (simp; omega) | omega))))) (by repeat (first | (with_reducible exact Below.refl _ _) | (with_reducible exact HB.out) | (with_reducible assumption) | (with_reducible apply below_alloc) | (with_reducible apply below_drew) | (with_reducible apply pw_below_drewN) | (with_reducible refine bstep' ?_ (by assumption)) | ((with_reducible refine Below.setCell ?_ ?_ _); rotate_left; (first | (dsimp only; omega) | (simp; done) | (simp; omega) | omega)))) ?aS ?aL ?_; (case aS => omega); (case aL => omega); intro v1 w9 hv1 hb9 hg9 _))
                    have HP9 := Aside0.mk (PG.other (HP4.out.below (by repeat (first | (with_reducible exact Below.refl _ _) | (with_reducible exact HB.out) | (with_reducible assumption) | (with_reducible apply below_alloc) | (with_reducible apply below_drew) | (with_reducible apply pw_below_drewN) | (with_reducible refine bstep' ?_ (by assumption)) | ((with_reducible refine Below.setCell ?_ ?_ _); rotate_left; (first | (dsimp only; omega) | (simp; done) | (simp; omega) | omega))))) hg9 hb9 (fun h => by have := HBL.out g h; omega) (fun h => by have := HBL.out X h; omega) (fun h => by have := HBL.out _ h; omega))
                    have h9 := hg9.size
                    go_wp2_with fail
                    go_roundg (g1 - 1)
                    case measure => omega
                    case rel => exact ⟨k + 1, by omega, by go_num, HP9, ⟨by rw [partsTo_t HE.out]; have h5 := hv1; rwa [show memTo G (↑k) n = membersP G k by unfold memTo membersP; rw [hgl]] at h5⟩, by omega⟩
            · obtain rfl : gk = 0 := by omega
              obtain rfl : n = k := by omega
              go_wp2_with fail
              go_ret
              exact ⟨_, rfl, by have h5 := Kd.R_mono HO.out (fun _ _ => trivial); show kRows.R _ _ _ _ _ (partsG (groupP fs n)); rw [← HG.out]; unfold partsG; rw [hgl]; exact h5, HP.out.B⟩

end Go.Proofs.Ytkkimlicabbooaa

/-
  parts of package search, whole.
-/
namespace Go.Proofs.Ytkkimlicabbooaa
open Go.RowKit Go.Proofs.YtkkimlicabbooaaW.PrintWords Bs
attribute [local go_sem] Later.cell? Later.frozen?
set_option linter.unusedVariables false
set_option linter.unusedSimpArgs false

set_option maxHeartbeats 1600000 in
set_option maxRecDepth 100000 in
theorem parts_zero (A1 A2 : Option Addr) (c1 c2 : Nat) (w : World) :
    Calls Try.prog 64 #[.agg #[.slice A1 0 c1, .slice A2 0 c2]] w fun e w' => ∃ v, e = .returned v ∧ kRows.R 52 w' w.heap.size (fun _ => True) v [] ∧ Below w.heap.size w w' := by
  go_enter Try.func64, Try.ntmps64
  go_wp2_with (first | ((with_reducible refine gate_dst (N := 15) rfl ?_); refine Kd.R_make kInt _ 3 rfl (N := 15) rfl 52 _ _ rfl ((0 : Nat) : Int) rfl rfl Try.underlying52 (.int .i64 0) 8 infoInt rfl (by decide) (by omega) 0 (ok := fun _ => True) (okp := fun _ => True) rfl (fun _ hk => hk) trivial (by omega) (by simp) (Below.refl _ _) (Nat.le_refl _) ?_; intro v1 w1 hv1 hb1 hg1 _; have HG1 := Aside0.mk hg1; have hs1 := Kd.R_slice hv1; clear hv1 hg1; obtain ⟨A3, c3, rfl⟩ := hs1))
  simp only [Int.toNat_natCast, List.length_replicate] at *
  obtain ⟨X, hX⟩ : ∃ X, X = w1.heap.size := ⟨_, rfl⟩
  have hlw : w.heap.size < w1.heap.size := by have := hb1.size; simp at this; omega
  have e1' : w1.cell? ⟨w.heap.size, 1, none⟩ = some (.slice A2 0 c2) := cell_grown HG1.out (by go_simp) (by simp)
  obtain ⟨W, hW⟩ : ∃ W, W = w1.alloc (.cells #[.slice A3 0 c3] 52) := ⟨_, rfl⟩
  have c0 : W.cell? ⟨X, 0, none⟩ = some (.slice A3 0 c3) := by rw [hW, hX]; go_simp
  have c1' : W.cell? ⟨w.heap.size, 1, none⟩ = some (.slice A2 0 c2) := by rw [hW]; go_simp
  have HB := Aside0.mk (show Below w.heap.size w W by rw [hW]; exact (by repeat (first | (with_reducible exact Below.refl _ _) | (with_reducible exact HB.out) | (with_reducible assumption) | (with_reducible apply below_alloc) | (with_reducible apply below_drew) | (with_reducible apply pw_below_drewN) | (with_reducible refine bstep' ?_ (by assumption)) | ((with_reducible refine Below.setCell ?_ ?_ _); rotate_left; (first | (dsimp only; omega) | (simp; done) | (simp; omega) | omega)))))
  rw [← hX, ← hW]
  clear hX hW hlw e1' HG1 hb1
  go_loopg [18] 0 (fun m cnt wr => m = 0 ∧ cnt = .int .i64 0 ∧ wr.cell? ⟨X, 0, none⟩ = some (.slice A3 0 c3) ∧ wr.cell? ⟨w.heap.size, 1, none⟩ = some (.slice A2 0 c2) ∧ Aside0 (Below w.heap.size w wr))
  case atStart => exact ⟨rfl, rfl, c0, c1', HB⟩
  case round =>
    clear c0 c1' HB
    obtain ⟨rfl, rfl, c0, c1', HB⟩ := hrel
    go_wp2_with fail
    obtain ⟨wo, rfl⟩ : ∃ u, u = wr := ⟨_, rfl⟩
    go_loopg [30] 0 (fun m cnt wr => m = 0 ∧ cnt = .int .i64 0 ∧ wr.cell? ⟨X, 0, none⟩ = some (.slice A3 0 c3) ∧ Aside0 (Below w.heap.size w wr))
    case atStart => exact ⟨rfl, rfl, c0, HB⟩
    case round =>
      clear c0 c1' HB
      obtain ⟨rfl, rfl, c0, HB⟩ := hrel
      go_wp2_with fail
      obtain ⟨wp, rfl⟩ : ∃ u, u = wr := ⟨_, rfl⟩
      go_loopg [8, 52] 0 (fun m v cnt wr => m = 0 ∧ v = .slice none 0 0 ∧ cnt = .int .i64 0 ∧ Aside0 (Below w.heap.size w wr))
      case atStart => exact ⟨rfl, rfl, rfl, HB⟩
      case round =>
        clear c0 HB
        obtain ⟨rfl, rfl, rfl, HB⟩ := hrel
        go_wp2_with fail
        go_ret
        exact ⟨_, rfl, Kd.R_nil _ _ _ _ _, HB.out⟩

theorem parts_c (A1 A2 : Option Addr) (n n2 c1 c2 : Nat) (fs : List Fct) (w : World) (h2 : kFct.C w A2 n2 fs) (hf : AllFormed fs n) (hn1 : n ≤ 12) (hn2 : n2 ≤ 60) :
    Calls Try.prog 64 #[.agg #[.slice A1 n c1, .slice A2 n2 c2]] w fun e w' => ∃ v, e = .returned v ∧ kRows.R 52 w' w.heap.size (fun _ => True) v (partsP fs n) ∧ Below w.heap.size w w' := by
  rcases Nat.eq_zero_or_pos n with hn | hn
  · subst hn
    have hff : fs = [] := by
      rcases fs with _ | ⟨f, r⟩
      · rfl
      · have := (formed_in (hf 0 (by omega) (by simp))).1; omega
    subst hff
    obtain rfl : n2 = 0 := by have := h2.1; simpa using this.symm
    exact parts_zero A1 A2 c1 c2 w
  · exact parts_pos A1 A2 n n2 c1 c2 fs w h2 hf hn hn1 hn2

end Go.Proofs.Ytkkimlicabbooaa

/-
  volume of package search.
-/
namespace Go.Proofs.Ytkkimlicabbooaa
open Go.RowKit Go.Proofs.YtkkimlicabbooaaW.PrintWords Bs
attribute [local go_sem] Later.cell? Later.frozen?
set_option linter.unusedVariables false
set_option linter.unusedSimpArgs false

def rRow (gs : List (List Int)) (i : Nat) : List Int := gs.getD i []
theorem at_Row {w : World} {A : Option Addr} {n : Nat} {gs : List (List Int)} (h : kRows.C w A n gs) (i : Nat) (h1 : i < n) : ∃ b off, A = some ⟨b, off, none⟩ ∧ b < w.heap.size ∧ ∃ A' c', w.cell? ⟨b, off + i, none⟩ = some (.slice A' (rRow gs i).length c') ∧ kInt.C w A' (rRow gs i).length (rRow gs i) := by
  obtain ⟨b, off, e, hb, hr⟩ := row_at (d := kRows) (by decide) h (by omega)
  have hl := h.1
  obtain ⟨c, _, ⟨A', c', e1, _, hC⟩, hc⟩ := hr i (rRow gs i) (by unfold rRow; rw [List.getD_eq_getElem?_getD, List.getElem?_eq_getElem (by omega)]; simp)
  subst e1
  exact ⟨b, off, e, hb, A', c', by simpa [kRows, Kd.slice] using hc 0 _ rfl, hC⟩

set_option maxHeartbeats 1600000 in
theorem volume_c (A1 A2 : Option Addr) (n1 n2 c1 c2 : Nat) (bs : List Bx) (gs : List (List Int)) (w : World) (h1 : kBx.C w A1 n1 bs) (h2 : kRows.C w A2 n2 gs) (hS : Sides bs) (hg : ∀ g ∈ gs, ∀ i ∈ g, 0 ≤ i ∧ i < (n1 : Int)) (hn : n2 < 100000) (hgn : ∀ g ∈ gs, g.length ≤ 12) :
    Calls Try.prog 65 #[.slice A1 n1 c1, .slice A2 n2 c2] w fun e w' => e = .returned (.int .i64 (volP bs gs)) ∧ Below w.heap.size w w' := by
  have H1 := Aside0.mk h1
  have H2 := Aside0.mk h2
  have HS := Aside0.mk hS
  have HG := Aside0.mk hg
  have hl1 := h1.1
  have hl2 := h2.1
  have HGN := Aside0.mk hgn
  clear h1 h2 hS hg hgn
  go_enter Try.func65, Try.ntmps65
  go_wp2_with fail
  go_loopg [5, 13] n2 (fun m v cnt wr => ∃ k : Nat, k + m = n2 ∧ cnt = .int .i64 k ∧ v = .int .i64 ((gs.take k).foldl (volMax bs) 0) ∧ Aside0 (Below w.heap.size w wr))
  case atStart => exact ⟨0, by omega, rfl, rfl, ⟨by first | exact Below.refl _ _ | exact (by repeat (first | (with_reducible exact Below.refl _ _) | (with_reducible exact HB.out) | (with_reducible assumption) | (with_reducible apply below_alloc) | (with_reducible apply below_drew) | (with_reducible apply pw_below_drewN) | (with_reducible refine bstep' ?_ (by assumption)) | ((with_reducible refine Below.setCell ?_ ?_ _); rotate_left; (first | (dsimp only; omega) | (simp; done) | (simp; omega) | omega))))⟩⟩
  case round =>
    obtain ⟨k, hk, rfl, rfl, HB⟩ := hrel
    by_cases hlt : k < n2
    · obtain ⟨b, off, rfl, hb, A', c', e0, hC⟩ := at_Row (Kd.C_below H2.out HB.out) k hlt
      have HM := Aside0.mk (HG.out (rRow gs k) (by unfold rRow; exact mem_get (by omega)))
      have HC := Aside0.mk hC
      have hgl2 : (rRow gs k).length ≤ 12 := HGN.out _ (by unfold rRow; exact mem_get (by omega))
      have HT := Aside0.mk (foldl_step (f := volMax bs) (b := (0 : Int)) (l := gs) (k := k) (z := []) (by omega))
      rw [show gs.getD k [] = rRow gs k from rfl] at HT
      clear hC
      obtain ⟨g1, rfl⟩ : ∃ u, u = gk := ⟨_, rfl⟩
      obtain ⟨w3, rfl⟩ : ∃ u, u = wr := ⟨_, rfl⟩
      generalize hG : rRow gs k = G at *
      generalize hV : (gs.take k).foldl (volMax bs) 0 = V at *
      clear hG hV
      obtain ⟨gl, hgl⟩ : ∃ x, x = G.length := ⟨_, rfl⟩
      rw [← hgl] at e0 HC hgl2
      have HGL := Aside0.mk hgl
      clear hgl
      go_wp2_with fail
      go_loopg [8, 19] gl (fun m v cnt wr => ∃ j : Nat, j + m = gl ∧ cnt = .int .i64 j ∧ v = .int .i64 ((G.take j).foldl (volStep bs G.length) 1) ∧ Aside0 (Below w3.heap.size w3 wr))
      case atStart => exact ⟨0, by omega, rfl, rfl, ⟨Below.refl _ _⟩⟩
      case round =>
        obtain ⟨j, hj, rfl, rfl, HW⟩ := hrel
        have hbB : Below w.heap.size w wr := bstep' HB.out HW.out
        by_cases hltj : j < gl
        · obtain ⟨b', off', rfl, hb', p0⟩ := at_Int (Kd.C_below HC.out HW.out) (j : Int) (by omega) (by omega)
          have hm := HM.out (rInt G (j : Int)) (by rw [rInt_nat]; exact mem_get (by have := HGL.out; omega))
          obtain ⟨hm0, hm1⟩ := hm
          have HN := Aside0.mk (volG_bounds G.length HS.out (G.take j) 1 (fun i hi => by rw [hl1]; exact HM.out i (List.mem_of_mem_take hi)) (by omega) (by omega))
          have HT2 := Aside0.mk (foldl_step (f := volStep bs G.length) (b := (1 : Int)) (l := G) (k := j) (z := 0) (by have := HGL.out; omega))
          rw [← rInt_nat] at HT2
          obtain ⟨b2, off2, rfl, hb2, x0, x1, x2, x3⟩ := at_Bx (Kd.C_below H1.out hbB) (rInt G (j : Int)) hm0 hm1
          have hsd := HS.out (rInt G (j : Int)) hm0 (by omega)
          generalize rInt G (j : Int) = I at *
          obtain ⟨q, rfl⟩ := Int.eq_ofNat_of_zero_le hm0
          simp only [Int.toNat_natCast] at p0 x0 x1 x2 x3
          have HT3 := Aside0.mk (show volStep bs G.length ((G.take j).foldl (volStep bs G.length) 1) (q : Int) = if 1 < gl then (if 65537 < (G.take j).foldl (volStep bs G.length) 1 * ((rBx bs q).x.hi - (rBx bs q).x.lo + 1) * ((rBx bs q).y.hi - (rBx bs q).y.lo + 1) then 65537 else (G.take j).foldl (volStep bs G.length) 1 * ((rBx bs q).x.hi - (rBx bs q).x.lo + 1) * ((rBx bs q).y.hi - (rBx bs q).y.lo + 1)) else (G.take j).foldl (volStep bs G.length) 1 by rw [HGL.out]; rfl)
          generalize (G.take j).foldl (volStep bs G.length) 1 = N at *
          obtain ⟨n0, n1'⟩ := HN.out
          obtain ⟨s1, s2, s3, s4, s5, s6, s7, s8⟩ := hsd
          obtain ⟨m1, m2, m3, m4⟩ := mul2_bounds n0 n1' (show 1 ≤ (rBx bs q).x.hi - (rBx bs q).x.lo + 1 by omega) (by omega) (show 1 ≤ (rBx bs q).y.hi - (rBx bs q).y.lo + 1 by omega) (by omega)
          by_cases hg1 : 1 < gl
          · rw [if_pos hg1] at HT3
            go_wp2_with fail
            by_cases hv : 65537 < N * ((rBx bs q).x.hi - (rBx bs q).x.lo + 1) * ((rBx bs q).y.hi - (rBx bs q).y.lo + 1)
            · rw [if_pos hv] at HT3
              (refine wp_region_quiet (C := fun w' => ∃ t : Later _, w' = t.w) (by kernel_rfl) (by kernel_rfl) (IsLater.drew _) ?_; (repeat (first | go_big_quiet_step ((go_at_call 31; exact later_of (size_c _ _ _ (by omega) (by omega)))) | quiet_step ((go_at_call 31; exact later_of (size_c _ _ _ (by omega) (by omega)))))); refine wpQuiet_nil ?_; rintro _ ⟨tq, rfl⟩)
              have hq := tq.h
              go_wp2_with fail
              go_roundg (gk - 1)
              case measure => omega
              case rel => exact ⟨j + 1, by omega, by go_num, by rw [HT2.out, HT3.out], ⟨bstep' HW.out hq⟩⟩
            · rw [if_neg hv] at HT3
              have hv2 : N * ((rBx bs q).x.hi - (rBx bs q).x.lo + 1) * ((rBx bs q).y.hi - (rBx bs q).y.lo + 1) ≤ 65537 := by omega
              (refine wp_region_quiet (C := fun w' => ∃ t : Later _, w' = t.w) (by kernel_rfl) (by kernel_rfl) (IsLater.drew _) ?_; (repeat (first | go_big_quiet_step ((go_at_call 31; exact later_of (size_c _ _ _ (by omega) (by omega)))) | quiet_step ((go_at_call 31; exact later_of (size_c _ _ _ (by omega) (by omega)))))); refine wpQuiet_nil ?_; rintro _ ⟨tq, rfl⟩)
              have hq := tq.h
              go_wp2_with fail
              go_roundg (gk - 1)
              case measure => omega
              case rel => exact ⟨j + 1, by omega, by go_num, by rw [HT2.out, HT3.out], ⟨bstep' HW.out hq⟩⟩
          · rw [if_neg hg1] at HT3
            go_wp2_with fail
            go_roundg (gk - 1)
            case measure => omega
            case rel => exact ⟨j + 1, by omega, by go_num, by rw [HT2.out, HT3.out], HW⟩
        · obtain rfl : gk = 0 := by omega
          obtain rfl : gl = j := by omega
          have HT4 := Aside0.mk (show (G.take gl).foldl (volStep bs G.length) 1 = volG bs G by rw [List.take_of_length_le (by have := HGL.out; omega)]; rfl)
          rw [HT4.out]
          by_cases hvm : V < volG bs G
          · go_wp2_with fail
            go_roundg (g1 - 1)
            case measure => omega
            case rel => exact ⟨k + 1, by omega, by go_num, by rw [HT.out]; unfold volMax; rw [if_pos (by omega)], ⟨hbB⟩⟩
          · have hvm2 : volG bs G ≤ V := by omega
            have hvm3 : decide (V < volG bs G) = false := by simp; omega
            go_wp2_with fail
            go_roundg (g1 - 1)
            case measure => omega
            case rel => exact ⟨k + 1, by omega, by go_num, by rw [HT.out]; unfold volMax; rw [if_neg (by omega)], ⟨hbB⟩⟩
    · obtain rfl : k = n2 := by omega
      rw [List.take_of_length_le (by omega)]
      go_wp2_with fail
      go_ret
      exact ⟨rfl, HB.out⟩

end Go.Proofs.Ytkkimlicabbooaa

/-
  Regions that draw their order, within a round of a range over a function. No program in sight.
-/
namespace Go.Proofs.Ytkkimlicabbooaa
open Go.RowKit
set_option linter.unusedVariables false
set_option linter.unusedSimpArgs false

section
variable {P : Program} {ops : Array Oper} {md : Region.Mode} {Q : Exit → Act → World → Prop} {l n : Nat}

def noDefer (ops : Array Oper) : Bool := ops.all fun o => match o.op with | .defer _ => false | _ => true
theorem noDefer_at {i : Nat} {o : Oper} (h : noDefer ops = true) (ho : ops[i]? = some o) : ∀ c, o.op ≠ .defer c := by
  intro c hc
  have h1 := Array.all_eq_true_iff_forall_mem.1 h o (Array.mem_of_getElem? ho)
  rw [hc] at h1
  simp at h1

theorem rowsIn_of {row : String} {args : Array Value} {w : World} {R : Value → World → Prop} (h : Rows P row args w R) : RowsIn (Fence.wide.inRound l) n P row args w R := by
  intro c cs _
  obtain ⟨v, w', r, s⟩ := h c cs
  exact ⟨v, w', r, stepsIn_wide.2 s⟩

theorem operIn_of {o : Oper} {a : Act} {w : World} {K : Act → World → Prop} (hd : ∀ c, o.op ≠ .defer c) (hQ : ¬ LetsOut Q) (h : o.wp P a w K Q) : o.wpIn (Fence.wide.inRound l) n P a w K Q := by
  refine ⟨fun _ _ => trivial, ?_⟩
  rw [show (Fence.wide.inRound l).round = some l from rfl, Oper.semAt_some l _ _ hd]
  unfold Oper.wp at h
  generalize (execOp a.eval o).run P w = r at *
  cases r with
  | ok x w' =>
    cases x with
    | value v => exact h
    | skip => exact h
    | defer d => exact h
    | enter f args => exact ⟨fun hh => by simp [Fence.wide] at hh, CallsIn.inRound l (callsIn_wide.2 h)⟩
    | row row args => exact ⟨fun hh => by simp [Fence.wide] at hh, rowsIn_of h⟩
    | _ => exact h.elim
  | halt x w' => cases x <;> exact h

theorem wpOpIn_of {i : Nat} {a : Act} {w : World} {K : Act → World → Prop} (hd : noDefer ops = true) (hQ : ¬ LetsOut Q) (h : wpOp P ops Q i K a w) : wpOpIn (Fence.wide.inRound l) n P ops Q i K a w := by
  unfold wpOp at h
  unfold wpOpIn
  cases ho : ops[i]? with
  | none => simpa [ho] using h
  | some o =>
    simp only [ho] at h ⊢
    split
    · rename_i hw
      rw [if_pos hw] at h
      exact operIn_of (noDefer_at hd ho) hQ (h.resolve_right (fun h => hQ h.2))
    · rename_i hw
      rw [if_neg hw] at h
      exact ⟨fun _ _ => trivial, h⟩

theorem wpAnyIn_of (hd : noDefer ops = true) (hQ : ¬ LetsOut Q) : ∀ (f : Nat) (listed : Array Bool) (a : Act) (w : World), wpAny P md ops Q f listed a w → wpAnyIn (Fence.wide.inRound l) n P md ops Q f listed a w
  | 0, _, _, _, h => h
  | f + 1, _, _, _, h => ⟨h.1, fun i hi => wpOpIn_of hd hQ (wpOp_mono (fun a w h' => wpAnyIn_of hd hQ f _ a w h') (h.2 i hi))⟩

/-- 'wp_region_quiet' within a round. -/
theorem wpIn_region_quiet {C : World → Prop} {id : Nat} {a : Act} {w : World} (hd : noDefer ops = true) (hQ : ¬ LetsOut Q) (hm : P.follows .mixedOrders = true) (hB : Region.lexB .any ops = true) (hC : C { w with drawn := w.drawn + 1 })
    (h : wpQuiet P ops C (fun a' => ∀ w', C w' → Q .normal a' w') ops.toList a) : (Code.region id ops true).wpIn (Fence.wide.inRound l) n P Q a w := by
  simp only [Region.lexB, Bool.and_eq_true] at hB
  refine wpIn_region_any hm (wpAnyIn_of hd hQ _ _ _ _ (wpAny_of_quiet (Q := fun a' => ∀ w', C w' → Q .normal a' w') (fun _ w' hw' h => h w' hw') _ _ _ _ hC ?_))
  have := wpAnyQ_lex (C := C) (md := .any) hB.1 ops.toList 0 (Array.replicate ops.size false) a (by simp) (by simpa using hB.2) h
  simpa using this

/-- 'wp_region_tail' within a round. -/
theorem wpIn_region_tail {C : World → Prop} {id : Nat} {a : Act} {w : World} {li : List Oper} (k : Nat) (hd : noDefer li.toArray = true) (hQ : ¬ LetsOut Q) (hm : P.follows .mixedOrders = true) (hs : Region.noSelect li.toArray = true) (hn : k < li.length)
    (hB : headB .any li.toArray k = true) (hsk : Region.sinkB .any li.toArray k = true) (hch : Region.chainB .any li.toArray k = true) (hL : Region.lexFrom .any li.toArray k 0 (tailListed k (li.length - k)) = true) (hC : C { w with drawn := w.drawn + 1 })
    (h : wpQuiet P li.toArray C (fun a' => ∀ w', C w' → wpAny P .any li.toArray Q (li.length - k) (headListed k (li.length - k)) a' w') (li.take k) a) : (Code.region id li.toArray true).wpIn (Fence.wide.inRound l) n P Q a w := by
  have hlen : (li.take k).length = k := by simp; omega
  have H := quiet_lex (P := P) (md := .any) (C := C) hs (li.take k) 0 (tailListed k (li.length - k)) a (fun j hj => by rw [hlen] at hj; simp [hj]) (by rw [hlen]; exact hL) h
  rw [hlen] at H
  refine wpIn_region_any hm (wpAnyIn_of hd hQ _ _ _ _ ?_)
  have hT : Two .any li.toArray k li.toArray.size (Array.replicate li.toArray.size false) (tailListed k (li.length - k)) :=
    ⟨⟨by simp, fun j oj _ hl => (by rw [getD_replicate_false] at hl; cases hl), fun t _ ht => getD_in (by simpa using ht) (getD_replicate_false _ _)⟩, by simp, by simp [tailListed]; omega, fun j hj => by simp [tailListed, hj, Array.getElem?_append, show j < li.length by omega], fun t h1 h2 => by simp at h2; simp [h2], fun t h1 h2 => by
      simp at h2
      simp [tailListed, Array.getElem?_append, show ¬ t < k by omega, show t - k < li.length - k by omega]⟩
  have := wpAny_of_head2 (P := P) (Q' := Q) (g := li.length - k) (by simp; omega) (by omega) hB hsk hch (fun a w hC h => h w hC) k _ _ a _ hT hC H
  rwa [show k + (li.length - k) = li.toArray.size by simp; omega] at this
/-- 'wp_region_held' within a round. -/
theorem wpIn_region_held {S : World → Prop} {id : Nat} {a : Act} {w : World} (hd : noDefer ops = true) (hQ : ¬ LetsOut Q) (hm : P.follows .mixedOrders = true) (hS : S w.drew)
    (h : S w.drew → wpAnyH P .any ops Q S ops.size (Array.replicate ops.size false) a w.drew) : (Code.region id ops true).wpIn (Fence.wide.inRound l) n P Q a w :=
  wpIn_region_any hm (wpAnyIn_of hd hQ _ _ _ _ (wpAny_of_held _ _ _ _ (h hS)))
end
end Go.Proofs.Ytkkimlicabbooaa

/-
  key, places of package search; the iterator's contract.
-/
namespace Go.Proofs.Ytkkimlicabbooaa
open Go.RowKit Go.Proofs.YtkkimlicabbooaaW.PrintWords Bs
attribute [local go_sem] Later.cell? Later.frozen?
attribute [local go_sem] Oper.semAt_some
set_option linter.unusedVariables false
set_option linter.unusedSimpArgs false


set_option maxHeartbeats 800000 in
theorem key_c (p : Pt) (k : Nat) (w : World) (hk : k < 4) (hx : -9223372036854775808 < p.x) (hx2 : p.x < 9223372036854775808) (hy : -9223372036854775808 < p.y) (hy2 : p.y < 9223372036854775808) :
    Calls Try.prog 77 #[.agg #[.int .i64 p.x, .int .i64 p.y], .int .i64 k] w fun e w' => e = .returned (.int .i64 (keyP p k)) ∧ Below w.heap.size w w' := by
  rcases k with _ | _ | _ | _ | k
  · go_enter Try.func77, Try.ntmps77
    go_wp2
    go_ret
    exact ⟨rfl, (by repeat (first | (with_reducible exact Below.refl _ _) | (with_reducible exact HB.out) | (with_reducible apply below_alloc) | (with_reducible apply below_drew) | (with_reducible apply pw_below_drewN) | (with_reducible refine bstep' ?_ (by assumption)) | ((with_reducible refine Below.setCell ?_ ?_ _); rotate_left; (first | (dsimp only; omega) | (simp; done) | (simp; omega) | omega))))⟩
  · go_enter Try.func77, Try.ntmps77
    go_wp2
    go_ret
    exact ⟨by simp [keyP], (by repeat (first | (with_reducible exact Below.refl _ _) | (with_reducible exact HB.out) | (with_reducible apply below_alloc) | (with_reducible apply below_drew) | (with_reducible apply pw_below_drewN) | (with_reducible refine bstep' ?_ (by assumption)) | ((with_reducible refine Below.setCell ?_ ?_ _); rotate_left; (first | (dsimp only; omega) | (simp; done) | (simp; omega) | omega))))⟩
  · go_enter Try.func77, Try.ntmps77
    go_wp2
    go_ret
    exact ⟨rfl, (by repeat (first | (with_reducible exact Below.refl _ _) | (with_reducible exact HB.out) | (with_reducible apply below_alloc) | (with_reducible apply below_drew) | (with_reducible apply pw_below_drewN) | (with_reducible refine bstep' ?_ (by assumption)) | ((with_reducible refine Below.setCell ?_ ?_ _); rotate_left; (first | (dsimp only; omega) | (simp; done) | (simp; omega) | omega))))⟩
  · go_enter Try.func77, Try.ntmps77
    go_wp2
    go_ret
    exact ⟨by simp [keyP], (by repeat (first | (with_reducible exact Below.refl _ _) | (with_reducible exact HB.out) | (with_reducible apply below_alloc) | (with_reducible apply below_drew) | (with_reducible apply pw_below_drewN) | (with_reducible refine bstep' ?_ (by assumption)) | ((with_reducible refine Below.setCell ?_ ?_ _); rotate_left; (first | (dsimp only; omega) | (simp; done) | (simp; omega) | omega))))⟩
  · omega

set_option maxHeartbeats 800000 in
/-- places: the box is laid in a block of its own, which the function value names. -/
theorem places_c (b : Bx) (w : World) :
    Calls Try.prog 78 #[.agg #[.int .i64 b.x.lo, .int .i64 b.x.hi, .int .i64 b.y.lo, .int .i64 b.y.hi]] w fun e w' => ∃ bx, e = .returned (.func (.func 96) #[] #[.pointer (some ⟨bx, 0, none⟩)]) ∧ w.heap.size ≤ bx ∧ bx < w'.heap.size ∧ w'.cell? ⟨bx, 0, none⟩ = some (.int .i64 b.x.lo) ∧ w'.cell? ⟨bx, 1, none⟩ = some (.int .i64 b.x.hi) ∧ w'.cell? ⟨bx, 2, none⟩ = some (.int .i64 b.y.lo) ∧ w'.cell? ⟨bx, 3, none⟩ = some (.int .i64 b.y.hi) ∧ Below w.heap.size w w' := by
  go_enter Try.func78, Try.ntmps78
  go_wp2
  go_ret
  exact ⟨w.heap.size, rfl, Nat.le_refl _, by simp, by go_simp, by go_simp, by go_simp, by go_simp, (by repeat (first | (with_reducible exact Below.refl _ _) | (with_reducible exact HB.out) | (with_reducible apply below_alloc) | (with_reducible apply below_drew) | (with_reducible apply pw_below_drewN) | (with_reducible refine bstep' ?_ (by assumption)) | ((with_reducible refine Below.setCell ?_ ?_ _); rotate_left; (first | (dsimp only; omega) | (simp; done) | (simp; omega) | omega))))⟩

/-- The block of the box lies as it lay. -/
def KpB (bx : Nat) (W W' : World) : Prop := W.heap.size ≤ W'.heap.size ∧ W'.heap[bx]? = W.heap[bx]?
theorem KpB.refl (bx : Nat) (W : World) : KpB bx W W := ⟨Nat.le_refl _, rfl⟩
theorem KpB.trans {bx : Nat} {A B C : World} (h : KpB bx A B) (k : KpB bx B C) : KpB bx A C := ⟨Nat.le_trans h.1 k.1, k.2.trans h.2⟩
theorem KpB.cell {bx o : Nat} {A B : World} {v : Value} (h : KpB bx A B) (hc : A.cell? ⟨bx, o, none⟩ = some v) : B.cell? ⟨bx, o, none⟩ = some v := (World.cell?_of_block h.2).trans hc

set_option maxHeartbeats 3200000 in
set_option maxRecDepth 100000 in
theorem places_stops (b : Bx) (bx n : Nat) (w : World) (hv : validB b = true) (h0 : w.cell? ⟨bx, 0, none⟩ = some (.int .i64 b.x.lo)) (h1 : w.cell? ⟨bx, 1, none⟩ = some (.int .i64 b.x.hi)) (h2 : w.cell? ⟨bx, 2, none⟩ = some (.int .i64 b.y.lo)) (h3 : w.cell? ⟨bx, 3, none⟩ = some (.int .i64 b.y.hi)) :
    SeqStopsK Fence.wide n Try.prog 96 #[.pointer (some ⟨bx, 0, none⟩)] (fun x : { x : Pt // inB x b } => #[.agg #[.int .i64 x.1.x, .int .i64 x.1.y]]) (KpB bx) (fun xs => xs.map (·.1) = placesP b) (fun _ => True) (nxP b * nyP b) w := by
  intro l J Jx W hW hJ hJx hY hj0
  refine callsIn_of_wp Try.func96 rfl trivial ?_ rfl
  simp only [Try.ntmps96, List.size_toArray, List.length_cons, List.length_nil, Nat.reduceAdd, Nat.reduceSub, Array.replicate_succ, Array.replicate_zero, List.push_toArray, List.append_toArray, List.nil_append, List.cons_append]
  have hbx := World.block_lt_of_cell? _ _ h0
  have HV := Aside0.mk hv
  have hK := (show KpB bx w W from ⟨hW.size, hW.block bx hbx⟩)
  have k0 := hK.cell h0
  have k1 := hK.cell h1
  have k2 := hK.cell h2
  have k3 := hK.cell h3
  clear h0 h1 h2 h3 hW hK hv
  obtain ⟨xa, xb, xc, ya, yb, yc, xd, yd⟩ := valid_bd HV.out
  gi_wp2
  gi_loopw [3] (fun x wr => ∃ k : Nat, k ≤ (b.x.hi - b.x.lo + 1).toNat ∧ x = .int .i64 (b.x.lo + k) ∧ (∃ pre, pre.map (·.1) = placesTo b k 0 ∧ J pre wr) ∧ KpB bx W wr)
    (fun x _ => (b.x.hi + 1 - intOf x).toNat)
  case atStart => exact ⟨0, Nat.zero_le _, by simp, ⟨[], rfl, hj0⟩, KpB.refl _ _⟩
  case round =>
    obtain ⟨k, hk, rfl, hJs, hKk⟩ := hrel
    have c0 := hKk.cell k0
    have c1 := hKk.cell k1
    have c2 := hKk.cell k2
    have c3 := hKk.cell k3
    by_cases hlt : k < (b.x.hi - b.x.lo + 1).toNat
    · have hlx : b.x.lo + (k : Int) ≤ b.x.hi := by omega
      gi_wp2
      obtain ⟨w1, rfl⟩ : ∃ u, u = wr := ⟨_, rfl⟩
      gi_loopw [4] (fun y wr => ∃ j : Nat, j ≤ (b.y.hi - b.y.lo + 1).toNat ∧ y = .int .i64 (b.y.lo + j) ∧ (∃ pre, pre.map (·.1) = placesTo b k j ∧ J pre wr) ∧ KpB bx W wr)
        (fun y _ => (b.y.hi + 1 - intOf y).toNat)
      case atStart => exact ⟨0, Nat.zero_le _, by simp, hJs, hKk⟩
      case round =>
        clear hJs hKk c0 c1 c2 c3
        obtain ⟨j, hj, rfl, hJs, hKk⟩ := hrel
        have c0 := hKk.cell k0
        have c1 := hKk.cell k1
        have c2 := hKk.cell k2
        have c3 := hKk.cell k3
        by_cases hltj : j < (b.y.hi - b.y.lo + 1).toNat
        · have hly : b.y.lo + (j : Int) ≤ b.y.hi := by omega
          obtain ⟨pre, hp, hJs⟩ := hJs
          have HP := Aside0.mk hp
          clear hp
          obtain ⟨fn, tmps, assign, body, hy, hR⟩ := hY pre ⟨⟨b.x.lo + (k : Int), b.y.lo + (j : Int)⟩, by unfold inB; dsimp only; omega⟩ wr hJs (by
            have h7 := congrArg List.length HP.out
            rw [List.length_map, placesTo_length] at h7
            rw [h7]
            exact places_lt hlt hltj)
          dsimp only at hy
          gi_wp2
          refine ⟨fun h => by simp [Fence.wide] at h, hR.mono ?_⟩
          rintro e W3 (⟨rfl, hJ3, hk3⟩ | ⟨rfl, hJx3⟩)
          · have hK3 := hKk.trans hk3
            have d0 := hK3.cell k0
            have d1 := hK3.cell k1
            have d2 := hK3.cell k2
            have d3 := hK3.cell k3
            gi_wp2
            go_roundw
            case rel => exact ⟨j + 1, by omega, by go_num, ⟨_, by rw [placesTo_succ, List.map_append, HP.out]; rfl, hJ3⟩, hK3⟩
            case measure => simp [intOf]; omega
          · gi_wp2
            refine bodyPost_ret (results_none rfl _ _ _) rfl ?_
            exact ⟨⟨_, rfl⟩, .inr ⟨_, trivial, hJx3⟩⟩
        · have hly : b.y.hi < b.y.lo + (j : Int) := by omega
          obtain rfl : j = (b.y.hi - b.y.lo + 1).toNat := by omega
          gi_wp2
          go_roundw
          case rel => exact ⟨k + 1, by omega, by go_num, ⟨hJs.choose, by rw [hJs.choose_spec.1]; exact placesTo_row b k, hJs.choose_spec.2⟩, hKk⟩
          case measure => simp [intOf]; omega
    · have hlx : b.x.hi < b.x.lo + (k : Int) := by omega
      obtain rfl : k = (b.x.hi - b.x.lo + 1).toNat := by omega
      obtain ⟨pre, hp, hJs⟩ := hJs
      gi_wp2
      go_end0
      exact ⟨⟨_, rfl⟩, .inl ⟨pre, by rw [hp]; exact placesTo_all b, hJs⟩⟩

end Go.Proofs.Ytkkimlicabbooaa

/-
  slices.Index and slices.Contains at []int.
-/
namespace Go.Proofs.Ytkkimlicabbooaa
open Go.RowKit Go.Proofs.YtkkimlicabbooaaW.PrintWords Bs
attribute [local go_sem] Later.cell? Later.frozen?
set_option linter.unusedVariables false
set_option linter.unusedSimpArgs false

theorem idx_step {x : Int} {l : List Int} {k : Nat} (h : k < l.length) : idxFrom x (l.drop k) k = if x = l.getD k 0 then (k : Int) else idxFrom x (l.drop (k + 1)) ((k + 1 : Nat) : Int) := by
  rw [drop_get (z := 0) h]; rfl

set_option maxHeartbeats 800000 in
theorem index_c (A : Option Addr) (n c : Nat) (l : List Int) (x : Int) (w : World) (h : kInt.C w A n l) (hn : n < 1000000) :
    Calls Try.prog 63 #[.slice A n c, .int .i64 x] w fun e w' => e = .returned (.int .i64 (idxP l x)) ∧ Below w.heap.size w w' := by
  have H := Aside0.mk h
  have hl := h.1
  clear h
  go_enter Try.func63, Try.ntmps63
  go_wp2_with fail
  go_loopg [8] n (fun m cnt wr => ∃ k : Nat, k + m = n ∧ cnt = .int .i64 k ∧ idxP l x = idxFrom x (l.drop k) k ∧ Aside0 (Below w.heap.size w wr))
  case atStart => exact ⟨0, by omega, rfl, rfl, ⟨Below.refl _ _⟩⟩
  case round =>
    obtain ⟨k, hk, rfl, hI, HB⟩ := hrel
    have HI := Aside0.mk hI
    clear hI
    by_cases hlt : k < n
    · obtain ⟨b, off, rfl, hb, e0⟩ := at_Int (Kd.C_below H.out HB.out) (k : Int) (by omega) (by omega)
      simp only [Int.toNat_natCast] at e0
      have HT := Aside0.mk (idx_step (x := x) (l := l) (k := k) (by omega))
      rw [← rInt_nat] at HT
      by_cases hE : x = rInt l (k : Int)
      · have hE1 : (x == rInt l (k : Int)) = true := beq_iff_eq.2 hE
        have HR := Aside0.mk (show idxP l x = (k : Int) by rw [HI.out, HT.out, if_pos hE])
        clear hE
        go_wp2_with fail
        go_ret
        exact ⟨by rw [HR.out]; rfl, HB.out⟩
      · have hE1 : (x == rInt l (k : Int)) = false := beq_eq_false_iff_ne.2 hE
        have HR := Aside0.mk (show idxP l x = idxFrom x (l.drop (k + 1)) ((k + 1 : Nat) : Int) by rw [HI.out, HT.out, if_neg hE])
        clear hE
        go_wp2_with fail
        go_roundg (gk - 1)
        case measure => omega
        case rel => exact ⟨k + 1, by omega, by go_num, HR.out, HB⟩
    · obtain rfl : k = n := by omega
      have HR := Aside0.mk (show idxP l x = -1 by rw [HI.out, List.drop_of_length_le (by omega)]; rfl)
      go_wp2_with fail
      go_ret
      exact ⟨by rw [HR.out]; rfl, HB.out⟩

theorem idxFrom_ge {x : Int} : ∀ (l : List Int) (k : Int), 0 ≤ k → idxFrom x l k = -1 ∧ x ∉ l ∨ k ≤ idxFrom x l k ∧ idxFrom x l k < k + l.length ∧ x ∈ l
  | [], k, _ => .inl ⟨rfl, by simp⟩
  | y :: r, k, h => by
    unfold idxFrom
    by_cases e : x = y
    · rw [if_pos e]; exact .inr ⟨Int.le_refl _, by simp; omega, by simp [e]⟩
    · rw [if_neg e]
      rcases idxFrom_ge r (k + 1) (by omega) with ⟨h1, h2⟩ | ⟨h1, h2, h3⟩
      · exact .inl ⟨h1, by simp [e, h2]⟩
      · exact .inr ⟨by omega, by simp; omega, by simp [h3]⟩
theorem idxP_cases (l : List Int) (x : Int) : idxP l x = -1 ∧ x ∉ l ∨ 0 ≤ idxP l x ∧ idxP l x < l.length ∧ x ∈ l := by
  rcases idxFrom_ge l 0 (Int.le_refl _) with h | ⟨h1, h2, h3⟩
  · exact .inl h
  · exact .inr ⟨h1, by simpa [idxP] using h2, h3⟩

set_option maxHeartbeats 800000 in
theorem contains_c (A : Option Addr) (n c : Nat) (l : List Int) (x : Int) (w : World) (h : kInt.C w A n l) (hn : n < 1000000) :
    Calls Try.prog 48 #[.slice A n c, .int .i64 x] w fun e w' => e = .returned (.bool (hasP l x)) ∧ Below w.heap.size w w' := by
  have H := Aside0.mk h
  clear h
  rcases idxP_cases l x with ⟨h1, h2⟩ | ⟨h1, h2, h3⟩
  · have HN := Aside0.mk h2
    have hi : ¬ 0 ≤ idxP l x := by omega
    have hid : decide (0 ≤ idxP l x) = false := by simp; omega
    clear h1 h2 
    go_enter Try.func48, Try.ntmps48
    go_wp2_with (first | (go_at_call 63; refine (index_c _ n _ l x _ (Kd.C_below H.out (by repeat (first | (with_reducible exact Below.refl _ _) | (with_reducible exact HB.out) | (with_reducible apply below_alloc) | (with_reducible apply below_drew) | (with_reducible apply pw_below_drewN) | (with_reducible refine bstep' ?_ (by assumption)) | ((with_reducible refine Below.setCell ?_ ?_ _); rotate_left; (first | (dsimp only; omega) | (simp; done) | (simp; omega) | omega))))) (by omega)).mono ?_; rintro e w1 ⟨rfl, hb1⟩))
    go_ret
    exact ⟨by simp [hasP, HN.out], (by repeat (first | (with_reducible exact Below.refl _ _) | (with_reducible exact HB.out) | (with_reducible assumption) | (with_reducible apply below_alloc) | (with_reducible apply below_drew) | (with_reducible apply pw_below_drewN) | (with_reducible refine bstep' ?_ (by assumption)) | ((with_reducible refine Below.setCell ?_ ?_ _); rotate_left; (first | (dsimp only; omega) | (simp; done) | (simp; omega) | omega))))⟩
  · have HN := Aside0.mk h3
    clear h2 h3
    go_enter Try.func48, Try.ntmps48
    go_wp2_with (first | (go_at_call 63; refine (index_c _ n _ l x _ (Kd.C_below H.out (by repeat (first | (with_reducible exact Below.refl _ _) | (with_reducible exact HB.out) | (with_reducible apply below_alloc) | (with_reducible apply below_drew) | (with_reducible apply pw_below_drewN) | (with_reducible refine bstep' ?_ (by assumption)) | ((with_reducible refine Below.setCell ?_ ?_ _); rotate_left; (first | (dsimp only; omega) | (simp; done) | (simp; omega) | omega))))) (by omega)).mono ?_; rintro e w1 ⟨rfl, hb1⟩))
    go_ret
    exact ⟨by simp [hasP, HN.out], (by repeat (first | (with_reducible exact Below.refl _ _) | (with_reducible exact HB.out) | (with_reducible assumption) | (with_reducible apply below_alloc) | (with_reducible apply below_drew) | (with_reducible apply pw_below_drewN) | (with_reducible refine bstep' ?_ (by assumption)) | ((with_reducible refine Below.setCell ?_ ?_ _); rotate_left; (first | (dsimp only; omega) | (simp; done) | (simp; omega) | omega))))⟩

end Go.Proofs.Ytkkimlicabbooaa

/-
  Blocks known by their type; pointers to structures that were made whole.
-/
namespace Go.Proofs.Ytkkimlicabbooaa
open Go.RowKit Go.Proofs.YtkkimlicabbooaaW.PrintWords Bs
set_option linter.unusedVariables false
set_option linter.unusedSimpArgs false

/-- Block b holds n cells of elements of type t, none of them frozen. -/
def Ty (W : World) (b t n : Nat) : Prop := ∃ cells : Array Value, W.heap[b]? = some (.cells cells t (0, 0)) ∧ cells.size = n
theorem Ty.block {W W2 : World} {b t n : Nat} (h : Ty W b t n) (e : W2.heap[b]? = W.heap[b]?) : Ty W2 b t n := by
  obtain ⟨c, h1, h2⟩ := h
  exact ⟨c, e.trans h1, h2⟩
theorem Ty.set {W : World} {b t n g i : Nat} {v : Value} (h : Ty W b t n) : Ty (W.setCell ⟨g, i, none⟩ v) b t n := by
  by_cases e : b = g
  · subst e
    obtain ⟨c, h1, h2⟩ := h
    refine ⟨c.setIfInBounds i v, ?_, by rw [Array.size_setIfInBounds]; exact h2⟩
    simp only [World.setCell, Array.getElem?_modify, h1]
    simp
  · exact h.block (Below.heap_setCell W ⟨g, i, none⟩ v b e)
theorem Ty.lt {W : World} {b t n : Nat} (h : Ty W b t n) : b < W.heap.size := by
  obtain ⟨c, h1, _⟩ := h
  exact (Array.getElem?_eq_some_iff.1 h1).1
theorem Ty.cells {W : World} {b t n : Nat} (h : Ty W b t n) {cs : List Value} (hl : cs.length = n) (hc : ∀ i u, cs[i]? = some u → W.cell? ⟨b, i, none⟩ = some u) : W.heap[b]? = some (.cells cs.toArray t (0, 0)) := by
  obtain ⟨c, h1, h2⟩ := h
  have : c = cs.toArray := by
    apply Array.ext
    · simp [h2, hl]
    · intro i i1 i2
      have h3 := hc i (cs[i]'(by simpa using i2)) (List.getElem?_eq_getElem _)
      simp only [World.cell?, h1] at h3
      have h4 : c[i]? = some (cs[i]'(by simpa using i2)) := by simpa using h3
      rw [Array.getElem?_eq_getElem i1] at h4
      simpa using h4
  rw [h1, this]
theorem cell_block {W : World} {b t : Nat} {cs : List Value} (h : W.heap[b]? = some (.cells cs.toArray t (0, 0))) (i : Nat) : W.cell? ⟨b, i, none⟩ = cs[i]? := by simp [World.cell?, h]

/-- A pointer to a structure of type t that was made whole. -/
def kdPtr {α : Type} (t : Nat) (d : Kd α) : Kd α where
  sz := 1
  E := t :: d.E
  K := fun w x cs => ∃ (b : Nat) (c : List Value), cs = [.pointer (some ⟨b, 0, none⟩)] ∧ (∀ i u, c[i]? = some u → w.cell? ⟨b, i, none⟩ = some u) ∧ d.K w x c
  M := fun w base ok x cs => ∃ (b : Nat) (c : List Value), cs = [.pointer (some ⟨b, 0, none⟩)] ∧ ok b ∧ base ≤ b ∧ w.heap[b]? = some (.cells c.toArray t (0, 0)) ∧ d.M w base ok x c
  K_len := by rintro w x cs ⟨b, c, rfl, _⟩; rfl
  K_one := by
    rintro w x cs ⟨b, c, rfl, _⟩ u hu
    rw [List.mem_singleton.1 hu]; rfl
  K_below := by
    rintro w w1 x cs hb ⟨b, c, rfl, hc, hk⟩
    exact ⟨b, c, rfl, fun i u hu => (hb.cell (p := ⟨b, i, none⟩) (World.block_lt_of_cell? _ _ (hc i u hu))).trans (hc i u hu), d.K_below hb hk⟩
  K_of_M := by
    rintro w base ok x cs ⟨b, c, rfl, _, _, hh, hm⟩
    exact ⟨b, c, rfl, fun i u hu => by rw [cell_block hh]; exact hu, d.K_of_M hm⟩
  M_mono := by
    rintro w base ok ok' x cs ho ⟨b, c, rfl, hb, h1, h2, h3⟩
    exact ⟨b, c, rfl, ho b hb, h1, h2, d.M_mono ho h3⟩
  M_bound := by
    rintro w base ok x cs ⟨b, c, rfl, hb, h1, h2, h3⟩
    refine ⟨b, c, rfl, ⟨hb, h1, (Array.getElem?_eq_some_iff.1 h2).1, t, List.mem_cons_self, _, h2⟩, h1, h2, d.M_mono ?_ (d.M_bound h3)⟩
    rintro k ⟨k1, k2, k3, q, hq, kc⟩
    exact ⟨k1, k2, k3, q, List.mem_cons_of_mem _ hq, kc⟩
  M_move := by
    rintro w w1 base ok x cs hm ⟨b, c, rfl, hb, h1, h2, h3⟩
    exact ⟨b, c, rfl, hb, h1, (hm b hb).trans h2, d.M_move hm h3⟩
  M_lower := by
    rintro w base base' ok x cs hb ⟨b, c, rfl, ho, h1, h2, h3⟩
    exact ⟨b, c, rfl, ho, Nat.le_trans hb h1, h2, d.M_lower hb h3⟩

abbrev E4 : Type := List Pt × List Pt × List Pt × List Pt
abbrev kPts : Kd (List Pt) := Kd.slice 49 kPt
def kE4 : Kd E4 := Kd.pair kPts (Kd.pair kPts (Kd.pair kPts kPts))
def kBody : Kd Seen := Kd.iso (Kd.pair (Kd.slice 3 kInt) (Kd.pair kInt (Kd.pair (Kd.slice 105 kE4) kPts))) (fun s => (s.part, s.cnt, s.ends, s.one))
def kSeen : Kd Seen := kdPtr 78 kBody
end Go.Proofs.Ytkkimlicabbooaa
