/-
  Package search, walked: part 3.
-/
import Derived.Test.YtkkimlicabbooaaB2
import Derived.Test.YtkkimlicabbooaaP1
import Derived.ProofKit
import Derived.Lib.SmallJoins
import Derived.Deep.Slices
import Derived.Test.YtkkimlicabbooaaRows
import Derived.WalkKit
import Derived.OpenShut
import Derived.ChangeOld
/-
  The state of picked's loop.
-/
namespace Go.Proofs.Ytkkimlicabbooaa
open Go.RowKit Go.Proofs.YtkkimlicabbooaaW.PrintWords Bs
attribute [local go_sem] Later.cell? Later.frozen?
set_option linter.unusedVariables false
set_option linter.unusedSimpArgs false

/-- The problem that picked makes: its boxes' cell, its facts' cell and row. -/
structure PK (W3 : World) (bO : Nat) (v1 v : Value) (xs : List Fct) (wr : World) : Prop where
  c0 : wr.cell? ⟨bO, 0, none⟩ = some v1
  c1 : wr.cell? ⟨bO, 1, none⟩ = some v
  R : kFct.R 33 wr W3.heap.size (fun j => j ≠ bO) v xs
  T : Ty wr bO 25 2
  B : Below W3.heap.size W3 wr
  b : bO = W3.heap.size
section
variable {W3 W W2 : World} {bO : Nat} {v1 v v2 : Value} {xs : List Fct}
theorem PK.below (h : PK W3 bO v1 v xs W) (hb : Below W.heap.size W W2) : PK W3 bO v1 v xs W2 :=
  ⟨(hb.cell (p := ⟨bO, 0, none⟩) (cell_lt h.c0)).trans h.c0, (hb.cell (p := ⟨bO, 1, none⟩) (cell_lt h.c1)).trans h.c1, Kd.R_below h.R hb, h.T.below hb, bstep' h.B hb, h.b⟩
theorem PK.own (h : PK W3 bO v1 v xs W) : ∀ k, v.ownBlock = some k → W3.heap.size ≤ k := fun k hk => ((Kd.R_bound h.R).1 k hk).2.1
theorem PK.push (h : PK W3 bO v1 v xs W) {x : Fct} (hR : kFct.R 33 W2 W3.heap.size (fun j => j ≠ bO) v2 (xs ++ [x])) (hg : W.grownBy W2 v.ownBlock) : PK W3 bO v1 v2 (xs ++ [x]) (W2.setCell ⟨bO, 1, none⟩ v2) :=
  have hne : some bO ≠ v.ownBlock := fun e => h.R.1 _ e.symm rfl
  have hB : Below W3.heap.size W3 W2 := h.B.grown hg h.B.size h.own
  ⟨cell_other (cell_grown hg h.c0 hne) (by simp), World.cell?_setCell_same' _ _ _ (by rw [cell_grown hg h.c1 hne]; rfl), Kd.R_far (p := ⟨bO, 1, none⟩) hR (fun _ hk => hk) _, (h.T.block (hg.block _ h.T.lt hne)).set, hB.setCell (by have := h.b; dsimp only; omega) _, h.b⟩
end
theorem filter_step {fs : List Fct} {P : Fct → Bool} {k : Nat} (h : k < fs.length) : (fs.take (k + 1)).filter P = (fs.take k).filter P ++ (if P (rFct fs (k : Int)) then [rFct fs (k : Int)] else []) := by
  rw [take_get (z := ⟨0, 0, false, 0, 0, 0, ⟨0, 0⟩, 0⟩) h, List.filter_append, rFct_nat]
  congr 1
  generalize fs.getD k ⟨0, 0, false, 0, 0, 0, ⟨0, 0⟩, 0⟩ = x
  cases hP : P x <;> simp [List.filter, hP]

end Go.Proofs.Ytkkimlicabbooaa

/-
  picked of package search, for the closure of Core.
-/
namespace Go.Proofs.Ytkkimlicabbooaa
open Go.RowKit Go.Proofs.YtkkimlicabbooaaW.PrintWords Bs
attribute [local go_sem] Later.cell? Later.frozen?
set_option linter.unusedVariables false
set_option linter.unusedSimpArgs false

theorem pickB_types : ∀ q, q ∈ 42 :: kBx.E → q ≠ 25 := by decide
set_option maxHeartbeats 6400000 in
set_option maxRecDepth 100000 in
theorem pickedCore_c (A1 A2 : Option Addr) (n nf c1 c2 b : Nat) (keep : Int → Bool) (bs : List Bx) (fs : List Fct) (w : World) (h1 : kBx.C w A1 n bs) (h2 : kFct.C w A2 nf fs) (hn : n ≤ 1000) (hnf : nf ≤ 1000)
    (hk : ∀ (x : Int) (W : World), Below w.heap.size w W → Calls Try.prog 47 #[.int .i64 x, .pointer (some ⟨b, 0, none⟩)] W fun e w' => e = .returned (.bool (keep x)) ∧ Below W.heap.size W w') :
    Calls Try.prog 46 #[.agg #[.slice A1 n c1, .slice A2 nf c2], .func (.func 47) #[] #[.pointer (some ⟨b, 0, none⟩)]] w fun e w' => ∃ v1 v2, e = .returned (.agg #[v1, v2]) ∧ kBx.R 42 w' w.heap.size (fun _ => True) v1 bs ∧ kFct.R 33 w' w.heap.size (fun _ => True) v2 (fs.filter fun f => keep f.id) ∧ Below w.heap.size w w' := by
  have H1 := Aside0.mk h1
  have H2 := Aside0.mk h2
  have HF := Aside0.mk hk
  have HL2 := Aside0.mk h2.1
  clear h1 h2 hk
  go_enter Try.func46, Try.ntmps46
  go_wp2_with fail
  generalize hW : ((w.alloc _).alloc _ : World) = W
  have e0 : W.cell? ⟨w.heap.size, 0, none⟩ = some (.slice A1 n c1) := by subst hW; go_simp
  have e1 : W.cell? ⟨w.heap.size, 1, none⟩ = some (.slice A2 nf c2) := by subst hW; go_simp
  have r0 : W.cell? ⟨w.heap.size + 1, 0, none⟩ = some (.slice none 0 0) := by subst hW; go_simp
  have r1 : W.cell? ⟨w.heap.size + 1, 1, none⟩ = some (.slice none 0 0) := by subst hW; go_simp
  have hTR : Ty W (w.heap.size + 1) 25 2 := by subst hW; exact (by repeat (first | (with_reducible assumption) | (exact Ty.new3 (by first | (simp; done) | (simp; omega) | omega)) | (with_reducible refine Ty.old ?_) | (with_reducible refine Ty.set ?_) | (with_reducible refine Ty.drew ?_) | (with_reducible refine Ty.below ?_ (by assumption))))
  have HBW := Aside0.mk (show Below w.heap.size w W by subst hW; exact (by repeat (first | (with_reducible exact Below.refl _ _) | (with_reducible exact HB.out) | (with_reducible assumption) | (with_reducible apply below_alloc) | (with_reducible apply below_drew) | (with_reducible apply pw_below_drewN) | (with_reducible refine bstep' ?_ (by assumption)) | ((with_reducible refine Below.setCell ?_ ?_ _); rotate_left; (first | (dsimp only; omega) | (simp; done) | (simp; omega) | omega)))))
  have hz : W.heap.size = w.heap.size + 1 + 1 := by subst hW; simp
  clear hW
  refine (cloneBx_c _ n _ bs _ (Kd.C_below H1.out HBW.out) (by omega)).mono ?_
  rintro e w1 ⟨v1, rfl, hv1, hb1⟩
  have hlt : w.heap.size + 1 < w1.heap.size := by have := hb1.size; omega
  have hlt0 : w.heap.size < w1.heap.size := by omega
  have e0 := (hb1.cell (p := ⟨w.heap.size, 0, none⟩) (by dsimp only; omega)).trans e0
  have e1 := (hb1.cell (p := ⟨w.heap.size, 1, none⟩) (by dsimp only; omega)).trans e1
  have HT1 := Aside0.mk (hTR.below hb1)
  have HR0 := Aside0.mk ((hb1.cell (p := ⟨w.heap.size + 1, 0, none⟩) (by dsimp only; omega)).trans r0)
  have HR1 := Aside0.mk ((hb1.cell (p := ⟨w.heap.size + 1, 1, none⟩) (by dsimp only; omega)).trans r1)
  have HB1 := Aside0.mk (HBW.out.trans (hb1.mono (by omega)))
  obtain ⟨A3, c3, rfl⟩ := Kd.R_slice hv1
  have HLB := Aside0.mk (row_C hv1).1
  have HV1 := Aside0.mk (Kd.R_lower hv1 (by omega : w.heap.size ≤ W.heap.size))
  have hln : bs.length = n := H1.out.1
  rw [hln]
  rw [hln] at HV1
  clear hv1 hb1 hTR r0 r1 HBW hz hln
  clear HLB
  go_wp2_with fail
  go_loopg [15] nf (fun m cnt wr => ∃ (k : Nat) (v : Value), k + m = nf ∧ cnt = .int .i64 k ∧ Aside0 (PK w1 w1.heap.size (.slice A3 n c3) v ((fs.take k).filter fun f => keep f.id) wr))
  case atStart => exact ⟨0, .slice none 0 0, by omega, rfl, ⟨⟨by go_simp, by go_simp, Kd.R_nil _ _ _ _ _, Ty.new, (by repeat (first | (with_reducible exact Below.refl _ _) | (with_reducible exact HB.out) | (with_reducible assumption) | (with_reducible apply below_alloc) | (with_reducible apply below_drew) | (with_reducible apply pw_below_drewN) | (with_reducible refine bstep' ?_ (by assumption)) | ((with_reducible refine Below.setCell ?_ ?_ _); rotate_left; (first | (dsimp only; omega) | (simp; done) | (simp; omega) | omega)))), rfl⟩⟩⟩
  case round =>
    obtain ⟨k, v, hk, rfl, HP⟩ := hrel
    by_cases hl : k < nf
    · obtain ⟨b', off, rfl, hb', f0, f1, f2, f3, f4, f5, f6, f7, f8⟩ := at_Fct (Kd.C_below H2.out (HB1.out.trans (HP.out.B.mono HB1.out.size))) (k : Int) (by omega) (by omega)
      simp only [Int.toNat_natCast] at f0 f1 f2 f3 f4 f5 f6 f7 f8
      have c0 := HP.out.c0
      have c1 := HP.out.c1
      generalize hf : rFct fs (k : Int) = f at *
      have HST := Aside0.mk (filter_step (fs := fs) (P := fun f => keep f.id) (k := k) (by have := HL2.out; omega))
      rw [hf] at HST
      clear hf
      have HP4 := Aside0.mk (HP.out.below (W2 := wr.alloc (.cells #[.int .i64 f.id, .int .i64 f.kind, .bool f.no, .int .i64 f.a, .int .i64 f.b, .int .i64 f.c, .int .i64 f.span.lo, .int .i64 f.span.hi, .int .i64 f.quarter] 33)) (by repeat (first | (with_reducible exact Below.refl _ _) | (with_reducible exact HB.out) | (with_reducible assumption) | (with_reducible apply below_alloc) | (with_reducible apply below_drew) | (with_reducible apply pw_below_drewN) | (with_reducible refine bstep' ?_ (by assumption)) | ((with_reducible refine Below.setCell ?_ ?_ _); rotate_left; (first | (dsimp only; omega) | (simp; done) | (simp; omega) | omega)))))
      have hls := HP.out.B.size
      cases hkp : keep f.id with
      | false =>
        go_wp2_with (go_at_call 47; refine (HF.out f.id _ (HB1.out.trans (HP4.out.B.mono HB1.out.size))).mono ?_; rintro e w5 ⟨rfl, hb5⟩; rw [hkp])
        have HP5 := Aside0.mk (HP4.out.below hb5)
        go_roundg (gk - 1)
        case measure => omega
        case rel => exact ⟨k + 1, v, by omega, by go_num, ⟨by rw [HST.out, hkp]; simpa using HP5.out⟩⟩
      | true =>
        obtain ⟨xs, hxs⟩ : ∃ xs, xs = (fs.take k).filter fun f => keep f.id := ⟨_, rfl⟩
        have HLX := Aside0.mk (show xs.length ≤ k by rw [hxs]; exact Nat.le_trans (List.length_filter_le _ _) (by simp; omega))
        rw [← hxs] at HP HP4 HST
        clear hxs
        go_wp2_with (first | (go_at_call 47; go_must (refine (HF.out f.id _ (HB1.out.trans (HP4.out.B.mono HB1.out.size))).mono ?_; rintro e w5 ⟨rfl, hb5⟩; rw [hkp]; have HP5 := Aside0.mk (HP4.out.below hb5)); go_must (have d0 := HP5.out.c0; have d1 := HP5.out.c1; have hf5 := frozen_ty HP5.out.T; have g0 : w5.cell? ⟨wr.heap.size, 0, none⟩ = some (.int .i64 f.id) := (hb5.cell (p := ⟨wr.heap.size, 0, none⟩) (by simp)).trans (by go_simp); have g1 : w5.cell? ⟨wr.heap.size, 1, none⟩ = some (.int .i64 f.kind) := (hb5.cell (p := ⟨wr.heap.size, 1, none⟩) (by simp)).trans (by go_simp); have g2 : w5.cell? ⟨wr.heap.size, 2, none⟩ = some (.bool f.no) := (hb5.cell (p := ⟨wr.heap.size, 2, none⟩) (by simp)).trans (by go_simp); have g3 : w5.cell? ⟨wr.heap.size, 3, none⟩ = some (.int .i64 f.a) := (hb5.cell (p := ⟨wr.heap.size, 3, none⟩) (by simp)).trans (by go_simp); have g4 : w5.cell? ⟨wr.heap.size, 4, none⟩ = some (.int .i64 f.b) := (hb5.cell (p := ⟨wr.heap.size, 4, none⟩) (by simp)).trans (by go_simp); have g5 : w5.cell? ⟨wr.heap.size, 5, none⟩ = some (.int .i64 f.c) := (hb5.cell (p := ⟨wr.heap.size, 5, none⟩) (by simp)).trans (by go_simp); have g6 : w5.cell? ⟨wr.heap.size, 6, none⟩ = some (.int .i64 f.span.lo) := (hb5.cell (p := ⟨wr.heap.size, 6, none⟩) (by simp)).trans (by go_simp); have g7 : w5.cell? ⟨wr.heap.size, 7, none⟩ = some (.int .i64 f.span.hi) := (hb5.cell (p := ⟨wr.heap.size, 7, none⟩) (by simp)).trans (by go_simp); have g8 : w5.cell? ⟨wr.heap.size, 8, none⟩ = some (.int .i64 f.quarter) := (hb5.cell (p := ⟨wr.heap.size, 8, none⟩) (by simp)).trans (by go_simp); have hl5 := HP5.out.T.lt; have HTL := Aside0.mk HP5.out.T.lt; clear hb5)) | (at_builtin; (refine Kd.R_append kFct (w0 := w1) w1.heap.size rfl _ _ 23 33 (.agg #[.int .i64 0, .int .i64 0, .bool false, .int .i64 0, .int .i64 0, .int .i64 0, .int .i64 0, .int .i64 0, .int .i64 0]) 72 rfl Try.underlying23 infoFct rfl (by decide) (by omega) v xs f [.int .i64 f.id, .int .i64 f.kind, .bool f.no, .int .i64 f.a, .int .i64 f.b, .int .i64 f.c, .int .i64 f.span.lo, .int .i64 f.span.hi, .int .i64 f.quarter] (fun j => j ≠ w1.heap.size) (fun _ => False) rfl rfl rfl (fun _ h => h.elim) (fun j hj => ?aF) (Kd.R_below HP5.out.R (by repeat (first | (with_reducible exact Below.refl _ _) | (with_reducible exact HB.out) | (with_reducible assumption) | (with_reducible apply below_alloc) | (with_reducible apply below_drew) | (with_reducible apply pw_below_drewN) | (with_reducible refine bstep' ?_ (by assumption)) | ((with_reducible refine Below.setCell ?_ ?_ _); rotate_left; (first | (dsimp only; omega) | (simp; done) | (simp; omega) | omega))))) ?aB ?aS ?aL ?_; (case aF => have := HTL.out; first | omega | (rw [World.size_alloc] at hj; omega) | (simp at hj; omega)); (case aB => exact (HP5.out.below (by repeat (first | (with_reducible exact Below.refl _ _) | (with_reducible exact HB.out) | (with_reducible assumption) | (with_reducible apply below_alloc) | (with_reducible apply below_drew) | (with_reducible apply pw_below_drewN) | (with_reducible refine bstep' ?_ (by assumption)) | ((with_reducible refine Below.setCell ?_ ?_ _); rotate_left; (first | (dsimp only; omega) | (simp; done) | (simp; omega) | omega))))).B); (case aS => have := HTL.out; first | omega | (rw [World.size_alloc]; omega) | (simp; omega)); (case aL => have := HLX.out; omega); intro v2 w9 hv2 hb9 hg9 hat9; have HP9 := Aside0.mk (PK.push (HP5.out.below (by repeat (first | (with_reducible exact Below.refl _ _) | (with_reducible exact HB.out) | (with_reducible assumption) | (with_reducible apply below_alloc) | (with_reducible apply below_drew) | (with_reducible apply pw_below_drewN) | (with_reducible refine bstep' ?_ (by assumption)) | ((with_reducible refine Below.setCell ?_ ?_ _); rotate_left; (first | (dsimp only; omega) | (simp; done) | (simp; omega) | omega))))) hv2 hg9); have hne : some w1.heap.size ≠ v.ownBlock := (fun e => HP5.out.R.1 _ e.symm rfl); have o9 := cell_grown hg9 (HP5.out.below (by repeat (first | (with_reducible exact Below.refl _ _) | (with_reducible exact HB.out) | (with_reducible assumption) | (with_reducible apply below_alloc) | (with_reducible apply below_drew) | (with_reducible apply pw_below_drewN) | (with_reducible refine bstep' ?_ (by assumption)) | ((with_reducible refine Below.setCell ?_ ?_ _); rotate_left; (first | (dsimp only; omega) | (simp; done) | (simp; omega) | omega))))).c1 hne; have hf9 := frozen_ty ((HP5.out.below (by repeat (first | (with_reducible exact Below.refl _ _) | (with_reducible exact HB.out) | (with_reducible assumption) | (with_reducible apply below_alloc) | (with_reducible apply below_drew) | (with_reducible apply pw_below_drewN) | (with_reducible refine bstep' ?_ (by assumption)) | ((with_reducible refine Below.setCell ?_ ?_ _); rotate_left; (first | (dsimp only; omega) | (simp; done) | (simp; omega) | omega))))).T.block (hg9.block _ (HP5.out.below (by repeat (first | (with_reducible exact Below.refl _ _) | (with_reducible exact HB.out) | (with_reducible assumption) | (with_reducible apply below_alloc) | (with_reducible apply below_drew) | (with_reducible apply pw_below_drewN) | (with_reducible refine bstep' ?_ (by assumption)) | ((with_reducible refine Below.setCell ?_ ?_ _); rotate_left; (first | (dsimp only; omega) | (simp; done) | (simp; omega) | omega))))).T.lt hne)); obtain ⟨A12, c12, e12⟩ := Kd.R_slice hv2; clear hv2; obtain ⟨LL, hLL⟩ : ∃ x, x = (xs ++ [f]).length := ⟨_, rfl⟩; rw [← hLL] at e12; clear hLL; subst e12)))
        go_roundg (gk - 1)
        case measure => omega
        case rel => exact ⟨k + 1, _, by omega, by go_num, ⟨by rw [HST.out, hkp]; exact HP9.out⟩⟩
    · obtain rfl : gk = 0 := by omega
      obtain rfl : nf = k := by omega
      rw [List.take_of_length_le (by have := HL2.out; omega)] at HP
      have c0 := HP.out.c0
      have c1 := HP.out.c1
      obtain ⟨A13, c13, e13⟩ := Kd.R_slice HP.out.R
      obtain ⟨LL, hLL⟩ : ∃ x, x = (fs.filter fun f => keep f.id).length := ⟨_, rfl⟩
      rw [← hLL] at e13
      subst e13
      clear hLL
      have hbw := HP.out.B
      have HTW := Aside0.mk (HT1.out.below hbw)
      have r0 := (hbw.cell (p := ⟨w.heap.size + 1, 0, none⟩) hlt).trans HR0.out
      have r1 := (hbw.cell (p := ⟨w.heap.size + 1, 1, none⟩) hlt).trans HR1.out
      have hfr := frozen_ty HTW.out
      have hbx := HB1.out.trans (hbw.mono HB1.out.size)
      have HV2 := Aside0.mk (Kd.R_below HV1.out hbw)
      have HR2 := Aside0.mk (Kd.R_mono (Kd.R_lower HP.out.R HB1.out.size) (fun _ _ => trivial) : kFct.R 33 wr w.heap.size (fun _ => True) _ _)
      have hne : w.heap.size + 1 ≠ w1.heap.size := by omega
      clear hbw HP
      go_wp2_with fail
      exact bodyPost_ret (v := .agg #[.slice A3 n c3, .slice A13 LL c13]) (by simp [results, Try.results46, go_sem, *]) rfl ⟨.slice A3 n c3, .slice A13 LL c13, rfl, R_setTy (R_setTy HV2.out HTW.out pickB_types 0 _) HTW.out.set pickB_types 1 _, R_setTy (R_setTy HR2.out HTW.out withR_types 0 _) HTW.out.set withR_types 1 _, (by repeat (first | (with_reducible exact Below.refl _ _) | (with_reducible exact HB.out) | (with_reducible assumption) | (with_reducible apply below_alloc) | (with_reducible apply below_drew) | (with_reducible apply pw_below_drewN) | (with_reducible refine bstep' ?_ (by assumption)) | ((with_reducible refine Below.setCell ?_ ?_ _); rotate_left; (first | (dsimp only; omega) | (simp; done) | (simp; omega) | omega))))⟩
end Go.Proofs.Ytkkimlicabbooaa

/-
  picked of package search, for the closure of Only.
-/
namespace Go.Proofs.Ytkkimlicabbooaa
open Go.RowKit Go.Proofs.YtkkimlicabbooaaW.PrintWords Bs
attribute [local go_sem] Later.cell? Later.frozen?
set_option linter.unusedVariables false
set_option linter.unusedSimpArgs false

set_option maxHeartbeats 6400000 in
set_option maxRecDepth 100000 in
theorem pickedOnly_c (A1 A2 : Option Addr) (n nf c1 c2 b : Nat) (keep : Int → Bool) (bs : List Bx) (fs : List Fct) (w : World) (h1 : kBx.C w A1 n bs) (h2 : kFct.C w A2 nf fs) (hn : n ≤ 1000) (hnf : nf ≤ 1000)
    (hk : ∀ (x : Int) (W : World), Below w.heap.size w W → Calls Try.prog 49 #[.int .i64 x, .pointer (some ⟨b, 0, none⟩)] W fun e w' => e = .returned (.bool (keep x)) ∧ Below W.heap.size W w') :
    Calls Try.prog 46 #[.agg #[.slice A1 n c1, .slice A2 nf c2], .func (.func 49) #[] #[.pointer (some ⟨b, 0, none⟩)]] w fun e w' => ∃ v1 v2, e = .returned (.agg #[v1, v2]) ∧ kBx.R 42 w' w.heap.size (fun _ => True) v1 bs ∧ kFct.R 33 w' w.heap.size (fun _ => True) v2 (fs.filter fun f => keep f.id) ∧ Below w.heap.size w w' := by
  have H1 := Aside0.mk h1
  have H2 := Aside0.mk h2
  have HF := Aside0.mk hk
  have HL2 := Aside0.mk h2.1
  clear h1 h2 hk
  go_enter Try.func46, Try.ntmps46
  go_wp2_with fail
  generalize hW : ((w.alloc _).alloc _ : World) = W
  have e0 : W.cell? ⟨w.heap.size, 0, none⟩ = some (.slice A1 n c1) := by subst hW; go_simp
  have e1 : W.cell? ⟨w.heap.size, 1, none⟩ = some (.slice A2 nf c2) := by subst hW; go_simp
  have r0 : W.cell? ⟨w.heap.size + 1, 0, none⟩ = some (.slice none 0 0) := by subst hW; go_simp
  have r1 : W.cell? ⟨w.heap.size + 1, 1, none⟩ = some (.slice none 0 0) := by subst hW; go_simp
  have hTR : Ty W (w.heap.size + 1) 25 2 := by subst hW; exact (by repeat (first | (with_reducible assumption) | (exact Ty.new3 (by first | (simp; done) | (simp; omega) | omega)) | (with_reducible refine Ty.old ?_) | (with_reducible refine Ty.set ?_) | (with_reducible refine Ty.drew ?_) | (with_reducible refine Ty.below ?_ (by assumption))))
  have HBW := Aside0.mk (show Below w.heap.size w W by subst hW; exact (by repeat (first | (with_reducible exact Below.refl _ _) | (with_reducible exact HB.out) | (with_reducible assumption) | (with_reducible apply below_alloc) | (with_reducible apply below_drew) | (with_reducible apply pw_below_drewN) | (with_reducible refine bstep' ?_ (by assumption)) | ((with_reducible refine Below.setCell ?_ ?_ _); rotate_left; (first | (dsimp only; omega) | (simp; done) | (simp; omega) | omega)))))
  have hz : W.heap.size = w.heap.size + 1 + 1 := by subst hW; simp
  clear hW
  refine (cloneBx_c _ n _ bs _ (Kd.C_below H1.out HBW.out) (by omega)).mono ?_
  rintro e w1 ⟨v1, rfl, hv1, hb1⟩
  have hlt : w.heap.size + 1 < w1.heap.size := by have := hb1.size; omega
  have hlt0 : w.heap.size < w1.heap.size := by omega
  have e0 := (hb1.cell (p := ⟨w.heap.size, 0, none⟩) (by dsimp only; omega)).trans e0
  have e1 := (hb1.cell (p := ⟨w.heap.size, 1, none⟩) (by dsimp only; omega)).trans e1
  have HT1 := Aside0.mk (hTR.below hb1)
  have HR0 := Aside0.mk ((hb1.cell (p := ⟨w.heap.size + 1, 0, none⟩) (by dsimp only; omega)).trans r0)
  have HR1 := Aside0.mk ((hb1.cell (p := ⟨w.heap.size + 1, 1, none⟩) (by dsimp only; omega)).trans r1)
  have HB1 := Aside0.mk (HBW.out.trans (hb1.mono (by omega)))
  obtain ⟨A3, c3, rfl⟩ := Kd.R_slice hv1
  have HLB := Aside0.mk (row_C hv1).1
  have HV1 := Aside0.mk (Kd.R_lower hv1 (by omega : w.heap.size ≤ W.heap.size))
  have hln : bs.length = n := H1.out.1
  rw [hln]
  rw [hln] at HV1
  clear hv1 hb1 hTR r0 r1 HBW hz hln
  clear HLB
  go_wp2_with fail
  go_loopg [15] nf (fun m cnt wr => ∃ (k : Nat) (v : Value), k + m = nf ∧ cnt = .int .i64 k ∧ Aside0 (PK w1 w1.heap.size (.slice A3 n c3) v ((fs.take k).filter fun f => keep f.id) wr))
  case atStart => exact ⟨0, .slice none 0 0, by omega, rfl, ⟨⟨by go_simp, by go_simp, Kd.R_nil _ _ _ _ _, Ty.new, (by repeat (first | (with_reducible exact Below.refl _ _) | (with_reducible exact HB.out) | (with_reducible assumption) | (with_reducible apply below_alloc) | (with_reducible apply below_drew) | (with_reducible apply pw_below_drewN) | (with_reducible refine bstep' ?_ (by assumption)) | ((with_reducible refine Below.setCell ?_ ?_ _); rotate_left; (first | (dsimp only; omega) | (simp; done) | (simp; omega) | omega)))), rfl⟩⟩⟩
  case round =>
    obtain ⟨k, v, hk, rfl, HP⟩ := hrel
    by_cases hl : k < nf
    · obtain ⟨b', off, rfl, hb', f0, f1, f2, f3, f4, f5, f6, f7, f8⟩ := at_Fct (Kd.C_below H2.out (HB1.out.trans (HP.out.B.mono HB1.out.size))) (k : Int) (by omega) (by omega)
      simp only [Int.toNat_natCast] at f0 f1 f2 f3 f4 f5 f6 f7 f8
      have c0 := HP.out.c0
      have c1 := HP.out.c1
      generalize hf : rFct fs (k : Int) = f at *
      have HST := Aside0.mk (filter_step (fs := fs) (P := fun f => keep f.id) (k := k) (by have := HL2.out; omega))
      rw [hf] at HST
      clear hf
      have HP4 := Aside0.mk (HP.out.below (W2 := wr.alloc (.cells #[.int .i64 f.id, .int .i64 f.kind, .bool f.no, .int .i64 f.a, .int .i64 f.b, .int .i64 f.c, .int .i64 f.span.lo, .int .i64 f.span.hi, .int .i64 f.quarter] 33)) (by repeat (first | (with_reducible exact Below.refl _ _) | (with_reducible exact HB.out) | (with_reducible assumption) | (with_reducible apply below_alloc) | (with_reducible apply below_drew) | (with_reducible apply pw_below_drewN) | (with_reducible refine bstep' ?_ (by assumption)) | ((with_reducible refine Below.setCell ?_ ?_ _); rotate_left; (first | (dsimp only; omega) | (simp; done) | (simp; omega) | omega)))))
      have hls := HP.out.B.size
      cases hkp : keep f.id with
      | false =>
        go_wp2_with (go_at_call 49; refine (HF.out f.id _ (HB1.out.trans (HP4.out.B.mono HB1.out.size))).mono ?_; rintro e w5 ⟨rfl, hb5⟩; rw [hkp])
        have HP5 := Aside0.mk (HP4.out.below hb5)
        go_roundg (gk - 1)
        case measure => omega
        case rel => exact ⟨k + 1, v, by omega, by go_num, ⟨by rw [HST.out, hkp]; simpa using HP5.out⟩⟩
      | true =>
        obtain ⟨xs, hxs⟩ : ∃ xs, xs = (fs.take k).filter fun f => keep f.id := ⟨_, rfl⟩
        have HLX := Aside0.mk (show xs.length ≤ k by rw [hxs]; exact Nat.le_trans (List.length_filter_le _ _) (by simp; omega))
        rw [← hxs] at HP HP4 HST
        clear hxs
        go_wp2_with (first | (go_at_call 49; go_must (refine (HF.out f.id _ (HB1.out.trans (HP4.out.B.mono HB1.out.size))).mono ?_; rintro e w5 ⟨rfl, hb5⟩; rw [hkp]; have HP5 := Aside0.mk (HP4.out.below hb5)); go_must (have d0 := HP5.out.c0; have d1 := HP5.out.c1; have hf5 := frozen_ty HP5.out.T; have g0 : w5.cell? ⟨wr.heap.size, 0, none⟩ = some (.int .i64 f.id) := (hb5.cell (p := ⟨wr.heap.size, 0, none⟩) (by simp)).trans (by go_simp); have g1 : w5.cell? ⟨wr.heap.size, 1, none⟩ = some (.int .i64 f.kind) := (hb5.cell (p := ⟨wr.heap.size, 1, none⟩) (by simp)).trans (by go_simp); have g2 : w5.cell? ⟨wr.heap.size, 2, none⟩ = some (.bool f.no) := (hb5.cell (p := ⟨wr.heap.size, 2, none⟩) (by simp)).trans (by go_simp); have g3 : w5.cell? ⟨wr.heap.size, 3, none⟩ = some (.int .i64 f.a) := (hb5.cell (p := ⟨wr.heap.size, 3, none⟩) (by simp)).trans (by go_simp); have g4 : w5.cell? ⟨wr.heap.size, 4, none⟩ = some (.int .i64 f.b) := (hb5.cell (p := ⟨wr.heap.size, 4, none⟩) (by simp)).trans (by go_simp); have g5 : w5.cell? ⟨wr.heap.size, 5, none⟩ = some (.int .i64 f.c) := (hb5.cell (p := ⟨wr.heap.size, 5, none⟩) (by simp)).trans (by go_simp); have g6 : w5.cell? ⟨wr.heap.size, 6, none⟩ = some (.int .i64 f.span.lo) := (hb5.cell (p := ⟨wr.heap.size, 6, none⟩) (by simp)).trans (by go_simp); have g7 : w5.cell? ⟨wr.heap.size, 7, none⟩ = some (.int .i64 f.span.hi) := (hb5.cell (p := ⟨wr.heap.size, 7, none⟩) (by simp)).trans (by go_simp); have g8 : w5.cell? ⟨wr.heap.size, 8, none⟩ = some (.int .i64 f.quarter) := (hb5.cell (p := ⟨wr.heap.size, 8, none⟩) (by simp)).trans (by go_simp); have hl5 := HP5.out.T.lt; have HTL := Aside0.mk HP5.out.T.lt; clear hb5)) | (at_builtin; (refine Kd.R_append kFct (w0 := w1) w1.heap.size rfl _ _ 23 33 (.agg #[.int .i64 0, .int .i64 0, .bool false, .int .i64 0, .int .i64 0, .int .i64 0, .int .i64 0, .int .i64 0, .int .i64 0]) 72 rfl Try.underlying23 infoFct rfl (by decide) (by omega) v xs f [.int .i64 f.id, .int .i64 f.kind, .bool f.no, .int .i64 f.a, .int .i64 f.b, .int .i64 f.c, .int .i64 f.span.lo, .int .i64 f.span.hi, .int .i64 f.quarter] (fun j => j ≠ w1.heap.size) (fun _ => False) rfl rfl rfl (fun _ h => h.elim) (fun j hj => ?aF) (Kd.R_below HP5.out.R (by repeat (first | (with_reducible exact Below.refl _ _) | (with_reducible exact HB.out) | (with_reducible assumption) | (with_reducible apply below_alloc) | (with_reducible apply below_drew) | (with_reducible apply pw_below_drewN) | (with_reducible refine bstep' ?_ (by assumption)) | ((with_reducible refine Below.setCell ?_ ?_ _); rotate_left; (first | (dsimp only; omega) | (simp; done) | (simp; omega) | omega))))) ?aB ?aS ?aL ?_; (case aF => have := HTL.out; first | omega | (rw [World.size_alloc] at hj; omega) | (simp at hj; omega)); (case aB => exact (HP5.out.below (by repeat (first | (with_reducible exact Below.refl _ _) | (with_reducible exact HB.out) | (with_reducible assumption) | (with_reducible apply below_alloc) | (with_reducible apply below_drew) | (with_reducible apply pw_below_drewN) | (with_reducible refine bstep' ?_ (by assumption)) | ((with_reducible refine Below.setCell ?_ ?_ _); rotate_left; (first | (dsimp only; omega) | (simp; done) | (simp; omega) | omega))))).B); (case aS => have := HTL.out; first | omega | (rw [World.size_alloc]; omega) | (simp; omega)); (case aL => have := HLX.out; omega); intro v2 w9 hv2 hb9 hg9 hat9; have HP9 := Aside0.mk (PK.push (HP5.out.below (by repeat (first | (with_reducible exact Below.refl _ _) | (with_reducible exact HB.out) | (with_reducible assumption) | (with_reducible apply below_alloc) | (with_reducible apply below_drew) | (with_reducible apply pw_below_drewN) | (with_reducible refine bstep' ?_ (by assumption)) | ((with_reducible refine Below.setCell ?_ ?_ _); rotate_left; (first | (dsimp only; omega) | (simp; done) | (simp; omega) | omega))))) hv2 hg9); have hne : some w1.heap.size ≠ v.ownBlock := (fun e => HP5.out.R.1 _ e.symm rfl); have o9 := cell_grown hg9 (HP5.out.below (by repeat (first | (with_reducible exact Below.refl _ _) | (with_reducible exact HB.out) | (with_reducible assumption) | (with_reducible apply below_alloc) | (with_reducible apply below_drew) | (with_reducible apply pw_below_drewN) | (with_reducible refine bstep' ?_ (by assumption)) | ((with_reducible refine Below.setCell ?_ ?_ _); rotate_left; (first | (dsimp only; omega) | (simp; done) | (simp; omega) | omega))))).c1 hne; have hf9 := frozen_ty ((HP5.out.below (by repeat (first | (with_reducible exact Below.refl _ _) | (with_reducible exact HB.out) | (with_reducible assumption) | (with_reducible apply below_alloc) | (with_reducible apply below_drew) | (with_reducible apply pw_below_drewN) | (with_reducible refine bstep' ?_ (by assumption)) | ((with_reducible refine Below.setCell ?_ ?_ _); rotate_left; (first | (dsimp only; omega) | (simp; done) | (simp; omega) | omega))))).T.block (hg9.block _ (HP5.out.below (by repeat (first | (with_reducible exact Below.refl _ _) | (with_reducible exact HB.out) | (with_reducible assumption) | (with_reducible apply below_alloc) | (with_reducible apply below_drew) | (with_reducible apply pw_below_drewN) | (with_reducible refine bstep' ?_ (by assumption)) | ((with_reducible refine Below.setCell ?_ ?_ _); rotate_left; (first | (dsimp only; omega) | (simp; done) | (simp; omega) | omega))))).T.lt hne)); obtain ⟨A12, c12, e12⟩ := Kd.R_slice hv2; clear hv2; obtain ⟨LL, hLL⟩ : ∃ x, x = (xs ++ [f]).length := ⟨_, rfl⟩; rw [← hLL] at e12; clear hLL; subst e12)))
        go_roundg (gk - 1)
        case measure => omega
        case rel => exact ⟨k + 1, _, by omega, by go_num, ⟨by rw [HST.out, hkp]; exact HP9.out⟩⟩
    · obtain rfl : gk = 0 := by omega
      obtain rfl : nf = k := by omega
      rw [List.take_of_length_le (by have := HL2.out; omega)] at HP
      have c0 := HP.out.c0
      have c1 := HP.out.c1
      obtain ⟨A13, c13, e13⟩ := Kd.R_slice HP.out.R
      obtain ⟨LL, hLL⟩ : ∃ x, x = (fs.filter fun f => keep f.id).length := ⟨_, rfl⟩
      rw [← hLL] at e13
      subst e13
      clear hLL
      have hbw := HP.out.B
      have HTW := Aside0.mk (HT1.out.below hbw)
      have r0 := (hbw.cell (p := ⟨w.heap.size + 1, 0, none⟩) hlt).trans HR0.out
      have r1 := (hbw.cell (p := ⟨w.heap.size + 1, 1, none⟩) hlt).trans HR1.out
      have hfr := frozen_ty HTW.out
      have hbx := HB1.out.trans (hbw.mono HB1.out.size)
      have HV2 := Aside0.mk (Kd.R_below HV1.out hbw)
      have HR2 := Aside0.mk (Kd.R_mono (Kd.R_lower HP.out.R HB1.out.size) (fun _ _ => trivial) : kFct.R 33 wr w.heap.size (fun _ => True) _ _)
      have hne : w.heap.size + 1 ≠ w1.heap.size := by omega
      clear hbw HP
      go_wp2_with fail
      exact bodyPost_ret (v := .agg #[.slice A3 n c3, .slice A13 LL c13]) (by simp [results, Try.results46, go_sem, *]) rfl ⟨.slice A3 n c3, .slice A13 LL c13, rfl, R_setTy (R_setTy HV2.out HTW.out pickB_types 0 _) HTW.out.set pickB_types 1 _, R_setTy (R_setTy HR2.out HTW.out withR_types 0 _) HTW.out.set withR_types 1 _, (by repeat (first | (with_reducible exact Below.refl _ _) | (with_reducible exact HB.out) | (with_reducible assumption) | (with_reducible apply below_alloc) | (with_reducible apply below_drew) | (with_reducible apply pw_below_drewN) | (with_reducible refine bstep' ?_ (by assumption)) | ((with_reducible refine Below.setCell ?_ ?_ _); rotate_left; (first | (dsimp only; omega) | (simp; done) | (simp; omega) | omega))))⟩
end Go.Proofs.Ytkkimlicabbooaa

/-
  picked of package search, for the closure of Without.
-/
namespace Go.Proofs.Ytkkimlicabbooaa
open Go.RowKit Go.Proofs.YtkkimlicabbooaaW.PrintWords Bs
attribute [local go_sem] Later.cell? Later.frozen?
set_option linter.unusedVariables false
set_option linter.unusedSimpArgs false

set_option maxHeartbeats 6400000 in
set_option maxRecDepth 100000 in
theorem pickedWithout_c (A1 A2 : Option Addr) (n nf c1 c2 b : Nat) (keep : Int → Bool) (bs : List Bx) (fs : List Fct) (w : World) (h1 : kBx.C w A1 n bs) (h2 : kFct.C w A2 nf fs) (hn : n ≤ 1000) (hnf : nf ≤ 1000)
    (hk : ∀ (x : Int) (W : World), Below w.heap.size w W → Calls Try.prog 51 #[.int .i64 x, .pointer (some ⟨b, 0, none⟩)] W fun e w' => e = .returned (.bool (keep x)) ∧ Below W.heap.size W w') :
    Calls Try.prog 46 #[.agg #[.slice A1 n c1, .slice A2 nf c2], .func (.func 51) #[] #[.pointer (some ⟨b, 0, none⟩)]] w fun e w' => ∃ v1 v2, e = .returned (.agg #[v1, v2]) ∧ kBx.R 42 w' w.heap.size (fun _ => True) v1 bs ∧ kFct.R 33 w' w.heap.size (fun _ => True) v2 (fs.filter fun f => keep f.id) ∧ Below w.heap.size w w' := by
  have H1 := Aside0.mk h1
  have H2 := Aside0.mk h2
  have HF := Aside0.mk hk
  have HL2 := Aside0.mk h2.1
  clear h1 h2 hk
  go_enter Try.func46, Try.ntmps46
  go_wp2_with fail
  generalize hW : ((w.alloc _).alloc _ : World) = W
  have e0 : W.cell? ⟨w.heap.size, 0, none⟩ = some (.slice A1 n c1) := by subst hW; go_simp
  have e1 : W.cell? ⟨w.heap.size, 1, none⟩ = some (.slice A2 nf c2) := by subst hW; go_simp
  have r0 : W.cell? ⟨w.heap.size + 1, 0, none⟩ = some (.slice none 0 0) := by subst hW; go_simp
  have r1 : W.cell? ⟨w.heap.size + 1, 1, none⟩ = some (.slice none 0 0) := by subst hW; go_simp
  have hTR : Ty W (w.heap.size + 1) 25 2 := by subst hW; exact (by repeat (first | (with_reducible assumption) | (exact Ty.new3 (by first | (simp; done) | (simp; omega) | omega)) | (with_reducible refine Ty.old ?_) | (with_reducible refine Ty.set ?_) | (with_reducible refine Ty.drew ?_) | (with_reducible refine Ty.below ?_ (by assumption))))
  have HBW := Aside0.mk (show Below w.heap.size w W by subst hW; exact (by repeat (first | (with_reducible exact Below.refl _ _) | (with_reducible exact HB.out) | (with_reducible assumption) | (with_reducible apply below_alloc) | (with_reducible apply below_drew) | (with_reducible apply pw_below_drewN) | (with_reducible refine bstep' ?_ (by assumption)) | ((with_reducible refine Below.setCell ?_ ?_ _); rotate_left; (first | (dsimp only; omega) | (simp; done) | (simp; omega) | omega)))))
  have hz : W.heap.size = w.heap.size + 1 + 1 := by subst hW; simp
  clear hW
  refine (cloneBx_c _ n _ bs _ (Kd.C_below H1.out HBW.out) (by omega)).mono ?_
  rintro e w1 ⟨v1, rfl, hv1, hb1⟩
  have hlt : w.heap.size + 1 < w1.heap.size := by have := hb1.size; omega
  have hlt0 : w.heap.size < w1.heap.size := by omega
  have e0 := (hb1.cell (p := ⟨w.heap.size, 0, none⟩) (by dsimp only; omega)).trans e0
  have e1 := (hb1.cell (p := ⟨w.heap.size, 1, none⟩) (by dsimp only; omega)).trans e1
  have HT1 := Aside0.mk (hTR.below hb1)
  have HR0 := Aside0.mk ((hb1.cell (p := ⟨w.heap.size + 1, 0, none⟩) (by dsimp only; omega)).trans r0)
  have HR1 := Aside0.mk ((hb1.cell (p := ⟨w.heap.size + 1, 1, none⟩) (by dsimp only; omega)).trans r1)
  have HB1 := Aside0.mk (HBW.out.trans (hb1.mono (by omega)))
  obtain ⟨A3, c3, rfl⟩ := Kd.R_slice hv1
  have HLB := Aside0.mk (row_C hv1).1
  have HV1 := Aside0.mk (Kd.R_lower hv1 (by omega : w.heap.size ≤ W.heap.size))
  have hln : bs.length = n := H1.out.1
  rw [hln]
  rw [hln] at HV1
  clear hv1 hb1 hTR r0 r1 HBW hz hln
  clear HLB
  go_wp2_with fail
  go_loopg [15] nf (fun m cnt wr => ∃ (k : Nat) (v : Value), k + m = nf ∧ cnt = .int .i64 k ∧ Aside0 (PK w1 w1.heap.size (.slice A3 n c3) v ((fs.take k).filter fun f => keep f.id) wr))
  case atStart => exact ⟨0, .slice none 0 0, by omega, rfl, ⟨⟨by go_simp, by go_simp, Kd.R_nil _ _ _ _ _, Ty.new, (by repeat (first | (with_reducible exact Below.refl _ _) | (with_reducible exact HB.out) | (with_reducible assumption) | (with_reducible apply below_alloc) | (with_reducible apply below_drew) | (with_reducible apply pw_below_drewN) | (with_reducible refine bstep' ?_ (by assumption)) | ((with_reducible refine Below.setCell ?_ ?_ _); rotate_left; (first | (dsimp only; omega) | (simp; done) | (simp; omega) | omega)))), rfl⟩⟩⟩
  case round =>
    obtain ⟨k, v, hk, rfl, HP⟩ := hrel
    by_cases hl : k < nf
    · obtain ⟨b', off, rfl, hb', f0, f1, f2, f3, f4, f5, f6, f7, f8⟩ := at_Fct (Kd.C_below H2.out (HB1.out.trans (HP.out.B.mono HB1.out.size))) (k : Int) (by omega) (by omega)
      simp only [Int.toNat_natCast] at f0 f1 f2 f3 f4 f5 f6 f7 f8
      have c0 := HP.out.c0
      have c1 := HP.out.c1
      generalize hf : rFct fs (k : Int) = f at *
      have HST := Aside0.mk (filter_step (fs := fs) (P := fun f => keep f.id) (k := k) (by have := HL2.out; omega))
      rw [hf] at HST
      clear hf
      have HP4 := Aside0.mk (HP.out.below (W2 := wr.alloc (.cells #[.int .i64 f.id, .int .i64 f.kind, .bool f.no, .int .i64 f.a, .int .i64 f.b, .int .i64 f.c, .int .i64 f.span.lo, .int .i64 f.span.hi, .int .i64 f.quarter] 33)) (by repeat (first | (with_reducible exact Below.refl _ _) | (with_reducible exact HB.out) | (with_reducible assumption) | (with_reducible apply below_alloc) | (with_reducible apply below_drew) | (with_reducible apply pw_below_drewN) | (with_reducible refine bstep' ?_ (by assumption)) | ((with_reducible refine Below.setCell ?_ ?_ _); rotate_left; (first | (dsimp only; omega) | (simp; done) | (simp; omega) | omega)))))
      have hls := HP.out.B.size
      cases hkp : keep f.id with
      | false =>
        go_wp2_with (go_at_call 51; refine (HF.out f.id _ (HB1.out.trans (HP4.out.B.mono HB1.out.size))).mono ?_; rintro e w5 ⟨rfl, hb5⟩; rw [hkp])
        have HP5 := Aside0.mk (HP4.out.below hb5)
        go_roundg (gk - 1)
        case measure => omega
        case rel => exact ⟨k + 1, v, by omega, by go_num, ⟨by rw [HST.out, hkp]; simpa using HP5.out⟩⟩
      | true =>
        obtain ⟨xs, hxs⟩ : ∃ xs, xs = (fs.take k).filter fun f => keep f.id := ⟨_, rfl⟩
        have HLX := Aside0.mk (show xs.length ≤ k by rw [hxs]; exact Nat.le_trans (List.length_filter_le _ _) (by simp; omega))
        rw [← hxs] at HP HP4 HST
        clear hxs
        go_wp2_with (first | (go_at_call 51; go_must (refine (HF.out f.id _ (HB1.out.trans (HP4.out.B.mono HB1.out.size))).mono ?_; rintro e w5 ⟨rfl, hb5⟩; rw [hkp]; have HP5 := Aside0.mk (HP4.out.below hb5)); go_must (have d0 := HP5.out.c0; have d1 := HP5.out.c1; have hf5 := frozen_ty HP5.out.T; have g0 : w5.cell? ⟨wr.heap.size, 0, none⟩ = some (.int .i64 f.id) := (hb5.cell (p := ⟨wr.heap.size, 0, none⟩) (by simp)).trans (by go_simp); have g1 : w5.cell? ⟨wr.heap.size, 1, none⟩ = some (.int .i64 f.kind) := (hb5.cell (p := ⟨wr.heap.size, 1, none⟩) (by simp)).trans (by go_simp); have g2 : w5.cell? ⟨wr.heap.size, 2, none⟩ = some (.bool f.no) := (hb5.cell (p := ⟨wr.heap.size, 2, none⟩) (by simp)).trans (by go_simp); have g3 : w5.cell? ⟨wr.heap.size, 3, none⟩ = some (.int .i64 f.a) := (hb5.cell (p := ⟨wr.heap.size, 3, none⟩) (by simp)).trans (by go_simp); have g4 : w5.cell? ⟨wr.heap.size, 4, none⟩ = some (.int .i64 f.b) := (hb5.cell (p := ⟨wr.heap.size, 4, none⟩) (by simp)).trans (by go_simp); have g5 : w5.cell? ⟨wr.heap.size, 5, none⟩ = some (.int .i64 f.c) := (hb5.cell (p := ⟨wr.heap.size, 5, none⟩) (by simp)).trans (by go_simp); have g6 : w5.cell? ⟨wr.heap.size, 6, none⟩ = some (.int .i64 f.span.lo) := (hb5.cell (p := ⟨wr.heap.size, 6, none⟩) (by simp)).trans (by go_simp); have g7 : w5.cell? ⟨wr.heap.size, 7, none⟩ = some (.int .i64 f.span.hi) := (hb5.cell (p := ⟨wr.heap.size, 7, none⟩) (by simp)).trans (by go_simp); have g8 : w5.cell? ⟨wr.heap.size, 8, none⟩ = some (.int .i64 f.quarter) := (hb5.cell (p := ⟨wr.heap.size, 8, none⟩) (by simp)).trans (by go_simp); have hl5 := HP5.out.T.lt; have HTL := Aside0.mk HP5.out.T.lt; clear hb5)) | (at_builtin; (refine Kd.R_append kFct (w0 := w1) w1.heap.size rfl _ _ 23 33 (.agg #[.int .i64 0, .int .i64 0, .bool false, .int .i64 0, .int .i64 0, .int .i64 0, .int .i64 0, .int .i64 0, .int .i64 0]) 72 rfl Try.underlying23 infoFct rfl (by decide) (by omega) v xs f [.int .i64 f.id, .int .i64 f.kind, .bool f.no, .int .i64 f.a, .int .i64 f.b, .int .i64 f.c, .int .i64 f.span.lo, .int .i64 f.span.hi, .int .i64 f.quarter] (fun j => j ≠ w1.heap.size) (fun _ => False) rfl rfl rfl (fun _ h => h.elim) (fun j hj => ?aF) (Kd.R_below HP5.out.R (by repeat (first | (with_reducible exact Below.refl _ _) | (with_reducible exact HB.out) | (with_reducible assumption) | (with_reducible apply below_alloc) | (with_reducible apply below_drew) | (with_reducible apply pw_below_drewN) | (with_reducible refine bstep' ?_ (by assumption)) | ((with_reducible refine Below.setCell ?_ ?_ _); rotate_left; (first | (dsimp only; omega) | (simp; done) | (simp; omega) | omega))))) ?aB ?aS ?aL ?_; (case aF => have := HTL.out; first | omega | (rw [World.size_alloc] at hj; omega) | (simp at hj; omega)); (case aB => exact (HP5.out.below (by repeat (first | (with_reducible exact Below.refl _ _) | (with_reducible exact HB.out) | (with_reducible assumption) | (with_reducible apply below_alloc) | (with_reducible apply below_drew) | (with_reducible apply pw_below_drewN) | (with_reducible refine bstep' ?_ (by assumption)) | ((with_reducible refine Below.setCell ?_ ?_ _); rotate_left; (first | (dsimp only; omega) | (simp; done) | (simp; omega) | omega))))).B); (case aS => have := HTL.out; first | omega | (rw [World.size_alloc]; omega) | (simp; omega)); (case aL => have := HLX.out; omega); intro v2 w9 hv2 hb9 hg9 hat9; have HP9 := Aside0.mk (PK.push (HP5.out.below (by repeat (first | (with_reducible exact Below.refl _ _) | (with_reducible exact HB.out) | (with_reducible assumption) | (with_reducible apply below_alloc) | (with_reducible apply below_drew) | (with_reducible apply pw_below_drewN) | (with_reducible refine bstep' ?_ (by assumption)) | ((with_reducible refine Below.setCell ?_ ?_ _); rotate_left; (first | (dsimp only; omega) | (simp; done) | (simp; omega) | omega))))) hv2 hg9); have hne : some w1.heap.size ≠ v.ownBlock := (fun e => HP5.out.R.1 _ e.symm rfl); have o9 := cell_grown hg9 (HP5.out.below (by repeat (first | (with_reducible exact Below.refl _ _) | (with_reducible exact HB.out) | (with_reducible assumption) | (with_reducible apply below_alloc) | (with_reducible apply below_drew) | (with_reducible apply pw_below_drewN) | (with_reducible refine bstep' ?_ (by assumption)) | ((with_reducible refine Below.setCell ?_ ?_ _); rotate_left; (first | (dsimp only; omega) | (simp; done) | (simp; omega) | omega))))).c1 hne; have hf9 := frozen_ty ((HP5.out.below (by repeat (first | (with_reducible exact Below.refl _ _) | (with_reducible exact HB.out) | (with_reducible assumption) | (with_reducible apply below_alloc) | (with_reducible apply below_drew) | (with_reducible apply pw_below_drewN) | (with_reducible refine bstep' ?_ (by assumption)) | ((with_reducible refine Below.setCell ?_ ?_ _); rotate_left; (first | (dsimp only; omega) | (simp; done) | (simp; omega) | omega))))).T.block (hg9.block _ (HP5.out.below (by repeat (first | (with_reducible exact Below.refl _ _) | (with_reducible exact HB.out) | (with_reducible assumption) | (with_reducible apply below_alloc) | (with_reducible apply below_drew) | (with_reducible apply pw_below_drewN) | (with_reducible refine bstep' ?_ (by assumption)) | ((with_reducible refine Below.setCell ?_ ?_ _); rotate_left; (first | (dsimp only; omega) | (simp; done) | (simp; omega) | omega))))).T.lt hne)); obtain ⟨A12, c12, e12⟩ := Kd.R_slice hv2; clear hv2; obtain ⟨LL, hLL⟩ : ∃ x, x = (xs ++ [f]).length := ⟨_, rfl⟩; rw [← hLL] at e12; clear hLL; subst e12)))
        go_roundg (gk - 1)
        case measure => omega
        case rel => exact ⟨k + 1, _, by omega, by go_num, ⟨by rw [HST.out, hkp]; exact HP9.out⟩⟩
    · obtain rfl : gk = 0 := by omega
      obtain rfl : nf = k := by omega
      rw [List.take_of_length_le (by have := HL2.out; omega)] at HP
      have c0 := HP.out.c0
      have c1 := HP.out.c1
      obtain ⟨A13, c13, e13⟩ := Kd.R_slice HP.out.R
      obtain ⟨LL, hLL⟩ : ∃ x, x = (fs.filter fun f => keep f.id).length := ⟨_, rfl⟩
      rw [← hLL] at e13
      subst e13
      clear hLL
      have hbw := HP.out.B
      have HTW := Aside0.mk (HT1.out.below hbw)
      have r0 := (hbw.cell (p := ⟨w.heap.size + 1, 0, none⟩) hlt).trans HR0.out
      have r1 := (hbw.cell (p := ⟨w.heap.size + 1, 1, none⟩) hlt).trans HR1.out
      have hfr := frozen_ty HTW.out
      have hbx := HB1.out.trans (hbw.mono HB1.out.size)
      have HV2 := Aside0.mk (Kd.R_below HV1.out hbw)
      have HR2 := Aside0.mk (Kd.R_mono (Kd.R_lower HP.out.R HB1.out.size) (fun _ _ => trivial) : kFct.R 33 wr w.heap.size (fun _ => True) _ _)
      have hne : w.heap.size + 1 ≠ w1.heap.size := by omega
      clear hbw HP
      go_wp2_with fail
      exact bodyPost_ret (v := .agg #[.slice A3 n c3, .slice A13 LL c13]) (by simp [results, Try.results46, go_sem, *]) rfl ⟨.slice A3 n c3, .slice A13 LL c13, rfl, R_setTy (R_setTy HV2.out HTW.out pickB_types 0 _) HTW.out.set pickB_types 1 _, R_setTy (R_setTy HR2.out HTW.out withR_types 0 _) HTW.out.set withR_types 1 _, (by repeat (first | (with_reducible exact Below.refl _ _) | (with_reducible exact HB.out) | (with_reducible assumption) | (with_reducible apply below_alloc) | (with_reducible apply below_drew) | (with_reducible apply pw_below_drewN) | (with_reducible refine bstep' ?_ (by assumption)) | ((with_reducible refine Below.setCell ?_ ?_ _); rotate_left; (first | (dsimp only; omega) | (simp; done) | (simp; omega) | omega))))⟩
end Go.Proofs.Ytkkimlicabbooaa

/-
  Only and Without of package search.
-/
namespace Go.Proofs.Ytkkimlicabbooaa
open Go.RowKit Go.Proofs.YtkkimlicabbooaaW.PrintWords Bs
attribute [local go_sem] Later.cell? Later.frozen?
set_option linter.unusedVariables false
set_option linter.unusedSimpArgs false

def onlyP (p : Prob) (ids : List Int) : Prob × Int := if checkP p = 0 then (pickP p (keepP ids), 0) else (⟨[], []⟩, checkP p)
def withoutP (p : Prob) (ids : List Int) : Prob × Int := if checkP p = 0 then (pickP p (fun n => !hasP ids n), 0) else (⟨[], []⟩, checkP p)
set_option maxHeartbeats 3200000 in
set_option maxRecDepth 100000 in
theorem only_c (A1 A2 Ai : Option Addr) (n nf ni c1 c2 ci : Nat) (bs : List Bx) (fs : List Fct) (ids : List Int) (w : World) (h1 : kBx.C w A1 n bs) (h2 : kFct.C w A2 nf fs) (h3 : kInt.C w Ai ni ids) (hni : ni < 1000000) :
    Calls Try.prog 23 #[.agg #[.slice A1 n c1, .slice A2 nf c2], .slice Ai ni ci] w fun e w' => ∃ v1 v2, e = .returned (.tuple #[.agg #[v1, v2], .int .i64 (onlyP ⟨bs, fs⟩ ids).2]) ∧ kBx.R 42 w' w.heap.size (fun _ => True) v1 (onlyP ⟨bs, fs⟩ ids).1.boxes ∧ kFct.R 33 w' w.heap.size (fun _ => True) v2 (onlyP ⟨bs, fs⟩ ids).1.facts ∧ Below w.heap.size w w' := by
  have H1 := Aside0.mk h1
  have H2 := Aside0.mk h2
  have H3 := Aside0.mk h3
  clear h1 h2 h3
  go_enter Try.func23, Try.ntmps23
  go_wp2_with fail
  generalize hW : (((w.alloc _).alloc _).alloc _ : World) = W
  have e0 : W.cell? ⟨w.heap.size, 0, none⟩ = some (.slice A1 n c1) := by subst hW; go_simp
  have e1 : W.cell? ⟨w.heap.size, 1, none⟩ = some (.slice A2 nf c2) := by subst hW; go_simp
  have i0 : W.cell? ⟨w.heap.size + 1, 0, none⟩ = some (.slice Ai ni ci) := by subst hW; go_simp
  have r0 : W.cell? ⟨w.heap.size + 1 + 1, 0, none⟩ = some (.slice none 0 0) := by subst hW; go_simp
  have r1 : W.cell? ⟨w.heap.size + 1 + 1, 1, none⟩ = some (.slice none 0 0) := by subst hW; go_simp
  have hT : Ty W (w.heap.size + 1 + 1) 25 2 := by subst hW; exact (by repeat (first | (with_reducible assumption) | (exact Ty.new3 (by first | (simp; done) | (simp; omega) | omega)) | (with_reducible refine Ty.old ?_) | (with_reducible refine Ty.set ?_) | (with_reducible refine Ty.drew ?_) | (with_reducible refine Ty.below ?_ (by assumption))))
  have HBW := Aside0.mk (show Below w.heap.size w W by subst hW; exact (by repeat (first | (with_reducible exact Below.refl _ _) | (with_reducible exact HB.out) | (with_reducible assumption) | (with_reducible apply below_alloc) | (with_reducible apply below_drew) | (with_reducible apply pw_below_drewN) | (with_reducible refine bstep' ?_ (by assumption)) | ((with_reducible refine Below.setCell ?_ ?_ _); rotate_left; (first | (dsimp only; omega) | (simp; done) | (simp; omega) | omega)))))
  have hz : W.heap.size = w.heap.size + 1 + 1 + 1 := by subst hW; simp
  clear hW
  refine (check_c _ _ n nf _ _ bs fs _ (Kd.C_below H1.out HBW.out) (Kd.C_below H2.out HBW.out)).mono ?_
  rintro e w1 ⟨rfl, hb⟩
  have e0 := (hb.cell (p := ⟨w.heap.size, 0, none⟩) (by dsimp only; omega)).trans e0
  have e1 := (hb.cell (p := ⟨w.heap.size, 1, none⟩) (by dsimp only; omega)).trans e1
  have i0 := (hb.cell (p := ⟨w.heap.size + 1, 0, none⟩) (by dsimp only; omega)).trans i0
  have r0 := (hb.cell (p := ⟨w.heap.size + 1 + 1, 0, none⟩) (by dsimp only; omega)).trans r0
  have r1 := (hb.cell (p := ⟨w.heap.size + 1 + 1, 1, none⟩) (by dsimp only; omega)).trans r1
  have hT := Ty.below hT hb
  have HB1 := Aside0.mk (HBW.out.trans (hb.mono (by omega)))
  have hs1 := hb.size
  have hlt := hT.lt
  have hlt0 : w.heap.size < w1.heap.size := by omega
  have hlt1 : w.heap.size + 1 < w1.heap.size := by omega
  clear hb
  by_cases hc : checkP ⟨bs, fs⟩ = 0
  · have hcb : (checkP ⟨bs, fs⟩ != 0) = false := by simp [hc]
    have hcb2 : (checkP ⟨bs, fs⟩ == 0) = true := by simp [hc]
    have HC := Aside0.mk hc
    have HBD := Aside0.mk (And.intro (check_valid hc).1 (check_valid hc).2.1)
    have HI := Aside0.mk i0
    clear hc
    go_wp2_with fail
    refine (pickedOnly_c _ _ n nf _ _ (w.heap.size + 1) (keepP ids) bs fs _ (Kd.C_below H1.out HB1.out) (Kd.C_below H2.out HB1.out) (by have := HBD.out.1; have := H1.out.1; omega) (by have := HBD.out.2; have := H2.out.1; omega) (fun x W2 hW2 => keepOnly_c Ai ni ci (w.heap.size + 1) ids x W2 ((hW2.cell (p := ⟨w.heap.size + 1, 0, none⟩) hlt1).trans HI.out) (Kd.C_below H3.out (HB1.out.trans (hW2.mono HB1.out.size))) hni)).mono ?_
    rintro e w2 ⟨v1, v2, rfl, hv1, hv2, hb⟩
    have r0 := (hb.cell (p := ⟨w.heap.size + 1 + 1, 0, none⟩) hlt).trans r0
    have r1 := (hb.cell (p := ⟨w.heap.size + 1 + 1, 1, none⟩) hlt).trans r1
    have hT := Ty.below hT hb
    have hfr := frozen_ty hT
    have HTW := Aside0.mk hT
    have hbx := HB1.out.trans (hb.mono HB1.out.size)
    have HR1 := Aside0.mk (Kd.R_lower hv1 HB1.out.size)
    have HR2 := Aside0.mk (Kd.R_lower hv2 HB1.out.size)
    obtain ⟨A3, c3, rfl⟩ := Kd.R_slice hv1
    obtain ⟨A4, c4, rfl⟩ := Kd.R_slice hv2
    have HS := Aside0.mk (show onlyP ⟨bs, fs⟩ ids = (pickP ⟨bs, fs⟩ (keepP ids), 0) by unfold onlyP; rw [if_pos HC.out])
    clear hv1 hv2 hb
    generalize bs.length = L at *
    generalize (fs.filter fun f => (keepP ids) f.id).length = LL at *
    go_wp2_with fail
    exact bodyPost_ret (v := .tuple #[.agg #[.slice A3 L c3, .slice A4 LL c4], .int .i64 0]) (by simp [results, Try.results23, go_sem, *]) rfl ⟨.slice A3 L c3, .slice A4 LL c4, by rw [HS.out], by rw [HS.out]; exact R_setTy (R_setTy HR1.out HTW.out pickB_types 0 _) HTW.out.set pickB_types 1 _, by rw [HS.out]; exact R_setTy (R_setTy HR2.out HTW.out withR_types 0 _) HTW.out.set withR_types 1 _, (by repeat (first | (with_reducible exact Below.refl _ _) | (with_reducible exact HB.out) | (with_reducible assumption) | (with_reducible apply below_alloc) | (with_reducible apply below_drew) | (with_reducible apply pw_below_drewN) | (with_reducible refine bstep' ?_ (by assumption)) | ((with_reducible refine Below.setCell ?_ ?_ _); rotate_left; (first | (dsimp only; omega) | (simp; done) | (simp; omega) | omega))))⟩
  · have hcb : (checkP ⟨bs, fs⟩ != 0) = true := by simp [hc]
    have hcb2 : (checkP ⟨bs, fs⟩ == 0) = false := by simp [hc]
    have HS := Aside0.mk (show onlyP ⟨bs, fs⟩ ids = (⟨[], []⟩, checkP ⟨bs, fs⟩) by unfold onlyP; rw [if_neg hc])
    have hfr := frozen_ty hT
    have hbx := HB1.out
    generalize checkP ⟨bs, fs⟩ = E at *
    clear hc
    go_wp2_with fail
    exact bodyPost_ret (v := .tuple #[.agg #[.slice none 0 0, .slice none 0 0], .int .i64 E]) (by simp [results, Try.results23, go_sem, *]) rfl ⟨.slice none 0 0, .slice none 0 0, by rw [HS.out], by rw [HS.out]; exact Kd.R_nil _ _ _ _ _, by rw [HS.out]; exact Kd.R_nil _ _ _ _ _, (by repeat (first | (with_reducible exact Below.refl _ _) | (with_reducible exact HB.out) | (with_reducible assumption) | (with_reducible apply below_alloc) | (with_reducible apply below_drew) | (with_reducible apply pw_below_drewN) | (with_reducible refine bstep' ?_ (by assumption)) | ((with_reducible refine Below.setCell ?_ ?_ _); rotate_left; (first | (dsimp only; omega) | (simp; done) | (simp; omega) | omega))))⟩
set_option maxHeartbeats 3200000 in
set_option maxRecDepth 100000 in
theorem without_c (A1 A2 Ai : Option Addr) (n nf ni c1 c2 ci : Nat) (bs : List Bx) (fs : List Fct) (ids : List Int) (w : World) (h1 : kBx.C w A1 n bs) (h2 : kFct.C w A2 nf fs) (h3 : kInt.C w Ai ni ids) (hni : ni < 1000000) :
    Calls Try.prog 25 #[.agg #[.slice A1 n c1, .slice A2 nf c2], .slice Ai ni ci] w fun e w' => ∃ v1 v2, e = .returned (.tuple #[.agg #[v1, v2], .int .i64 (withoutP ⟨bs, fs⟩ ids).2]) ∧ kBx.R 42 w' w.heap.size (fun _ => True) v1 (withoutP ⟨bs, fs⟩ ids).1.boxes ∧ kFct.R 33 w' w.heap.size (fun _ => True) v2 (withoutP ⟨bs, fs⟩ ids).1.facts ∧ Below w.heap.size w w' := by
  have H1 := Aside0.mk h1
  have H2 := Aside0.mk h2
  have H3 := Aside0.mk h3
  clear h1 h2 h3
  go_enter Try.func25, Try.ntmps25
  go_wp2_with fail
  generalize hW : (((w.alloc _).alloc _).alloc _ : World) = W
  have e0 : W.cell? ⟨w.heap.size, 0, none⟩ = some (.slice A1 n c1) := by subst hW; go_simp
  have e1 : W.cell? ⟨w.heap.size, 1, none⟩ = some (.slice A2 nf c2) := by subst hW; go_simp
  have i0 : W.cell? ⟨w.heap.size + 1, 0, none⟩ = some (.slice Ai ni ci) := by subst hW; go_simp
  have r0 : W.cell? ⟨w.heap.size + 1 + 1, 0, none⟩ = some (.slice none 0 0) := by subst hW; go_simp
  have r1 : W.cell? ⟨w.heap.size + 1 + 1, 1, none⟩ = some (.slice none 0 0) := by subst hW; go_simp
  have hT : Ty W (w.heap.size + 1 + 1) 25 2 := by subst hW; exact (by repeat (first | (with_reducible assumption) | (exact Ty.new3 (by first | (simp; done) | (simp; omega) | omega)) | (with_reducible refine Ty.old ?_) | (with_reducible refine Ty.set ?_) | (with_reducible refine Ty.drew ?_) | (with_reducible refine Ty.below ?_ (by assumption))))
  have HBW := Aside0.mk (show Below w.heap.size w W by subst hW; exact (by repeat (first | (with_reducible exact Below.refl _ _) | (with_reducible exact HB.out) | (with_reducible assumption) | (with_reducible apply below_alloc) | (with_reducible apply below_drew) | (with_reducible apply pw_below_drewN) | (with_reducible refine bstep' ?_ (by assumption)) | ((with_reducible refine Below.setCell ?_ ?_ _); rotate_left; (first | (dsimp only; omega) | (simp; done) | (simp; omega) | omega)))))
  have hz : W.heap.size = w.heap.size + 1 + 1 + 1 := by subst hW; simp
  clear hW
  refine (check_c _ _ n nf _ _ bs fs _ (Kd.C_below H1.out HBW.out) (Kd.C_below H2.out HBW.out)).mono ?_
  rintro e w1 ⟨rfl, hb⟩
  have e0 := (hb.cell (p := ⟨w.heap.size, 0, none⟩) (by dsimp only; omega)).trans e0
  have e1 := (hb.cell (p := ⟨w.heap.size, 1, none⟩) (by dsimp only; omega)).trans e1
  have i0 := (hb.cell (p := ⟨w.heap.size + 1, 0, none⟩) (by dsimp only; omega)).trans i0
  have r0 := (hb.cell (p := ⟨w.heap.size + 1 + 1, 0, none⟩) (by dsimp only; omega)).trans r0
  have r1 := (hb.cell (p := ⟨w.heap.size + 1 + 1, 1, none⟩) (by dsimp only; omega)).trans r1
  have hT := Ty.below hT hb
  have HB1 := Aside0.mk (HBW.out.trans (hb.mono (by omega)))
  have hs1 := hb.size
  have hlt := hT.lt
  have hlt0 : w.heap.size < w1.heap.size := by omega
  have hlt1 : w.heap.size + 1 < w1.heap.size := by omega
  clear hb
  by_cases hc : checkP ⟨bs, fs⟩ = 0
  · have hcb : (checkP ⟨bs, fs⟩ != 0) = false := by simp [hc]
    have hcb2 : (checkP ⟨bs, fs⟩ == 0) = true := by simp [hc]
    have HC := Aside0.mk hc
    have HBD := Aside0.mk (And.intro (check_valid hc).1 (check_valid hc).2.1)
    have HI := Aside0.mk i0
    clear hc
    go_wp2_with fail
    refine (pickedWithout_c _ _ n nf _ _ (w.heap.size + 1) (fun n => !hasP ids n) bs fs _ (Kd.C_below H1.out HB1.out) (Kd.C_below H2.out HB1.out) (by have := HBD.out.1; have := H1.out.1; omega) (by have := HBD.out.2; have := H2.out.1; omega) (fun x W2 hW2 => keepWithout_c Ai ni ci (w.heap.size + 1) ids x W2 ((hW2.cell (p := ⟨w.heap.size + 1, 0, none⟩) hlt1).trans HI.out) (Kd.C_below H3.out (HB1.out.trans (hW2.mono HB1.out.size))) hni)).mono ?_
    rintro e w2 ⟨v1, v2, rfl, hv1, hv2, hb⟩
    have r0 := (hb.cell (p := ⟨w.heap.size + 1 + 1, 0, none⟩) hlt).trans r0
    have r1 := (hb.cell (p := ⟨w.heap.size + 1 + 1, 1, none⟩) hlt).trans r1
    have hT := Ty.below hT hb
    have hfr := frozen_ty hT
    have HTW := Aside0.mk hT
    have hbx := HB1.out.trans (hb.mono HB1.out.size)
    have HR1 := Aside0.mk (Kd.R_lower hv1 HB1.out.size)
    have HR2 := Aside0.mk (Kd.R_lower hv2 HB1.out.size)
    obtain ⟨A3, c3, rfl⟩ := Kd.R_slice hv1
    obtain ⟨A4, c4, rfl⟩ := Kd.R_slice hv2
    have HS := Aside0.mk (show withoutP ⟨bs, fs⟩ ids = (pickP ⟨bs, fs⟩ (fun n => !hasP ids n), 0) by unfold withoutP; rw [if_pos HC.out])
    clear hv1 hv2 hb
    generalize bs.length = L at *
    generalize (fs.filter fun f => (fun n => !hasP ids n) f.id).length = LL at *
    go_wp2_with fail
    exact bodyPost_ret (v := .tuple #[.agg #[.slice A3 L c3, .slice A4 LL c4], .int .i64 0]) (by simp [results, Try.results25, go_sem, *]) rfl ⟨.slice A3 L c3, .slice A4 LL c4, by rw [HS.out], by rw [HS.out]; exact R_setTy (R_setTy HR1.out HTW.out pickB_types 0 _) HTW.out.set pickB_types 1 _, by rw [HS.out]; exact R_setTy (R_setTy HR2.out HTW.out withR_types 0 _) HTW.out.set withR_types 1 _, (by repeat (first | (with_reducible exact Below.refl _ _) | (with_reducible exact HB.out) | (with_reducible assumption) | (with_reducible apply below_alloc) | (with_reducible apply below_drew) | (with_reducible apply pw_below_drewN) | (with_reducible refine bstep' ?_ (by assumption)) | ((with_reducible refine Below.setCell ?_ ?_ _); rotate_left; (first | (dsimp only; omega) | (simp; done) | (simp; omega) | omega))))⟩
  · have hcb : (checkP ⟨bs, fs⟩ != 0) = true := by simp [hc]
    have hcb2 : (checkP ⟨bs, fs⟩ == 0) = false := by simp [hc]
    have HS := Aside0.mk (show withoutP ⟨bs, fs⟩ ids = (⟨[], []⟩, checkP ⟨bs, fs⟩) by unfold withoutP; rw [if_neg hc])
    have hfr := frozen_ty hT
    have hbx := HB1.out
    generalize checkP ⟨bs, fs⟩ = E at *
    clear hc
    go_wp2_with fail
    exact bodyPost_ret (v := .tuple #[.agg #[.slice none 0 0, .slice none 0 0], .int .i64 E]) (by simp [results, Try.results25, go_sem, *]) rfl ⟨.slice none 0 0, .slice none 0 0, by rw [HS.out], by rw [HS.out]; exact Kd.R_nil _ _ _ _ _, by rw [HS.out]; exact Kd.R_nil _ _ _ _ _, (by repeat (first | (with_reducible exact Below.refl _ _) | (with_reducible exact HB.out) | (with_reducible assumption) | (with_reducible apply below_alloc) | (with_reducible apply below_drew) | (with_reducible apply pw_below_drewN) | (with_reducible refine bstep' ?_ (by assumption)) | ((with_reducible refine Below.setCell ?_ ?_ _); rotate_left; (first | (dsimp only; omega) | (simp; done) | (simp; omega) | omega))))⟩
end Go.Proofs.Ytkkimlicabbooaa

/-
  Core of package search: the laws of its loops.
-/
namespace Go.Proofs.Ytkkimlicabbooaa
open Go.RowKit Go.Proofs.YtkkimlicabbooaaW.PrintWords Bs
attribute [local go_sem] Later.cell? Later.frozen?
set_option linter.unusedVariables false
set_option linter.unusedSimpArgs false

theorem check_pick {bs : List Bx} {fs : List Fct} (h : checkP ⟨bs, fs⟩ = 0) (keep : Int → Bool) : checkP ⟨bs, fs.filter fun f => keep f.id⟩ = 0 := by
  unfold checkP at h ⊢
  dsimp only at h ⊢
  split at h
  · omega
  · rename_i hb
    have hl := List.length_filter_le (fun f : Fct => keep f.id) fs
    rw [if_neg (by omega)]
    split at h
    · rename_i ha
      rw [if_pos (by
        simp only [Bool.and_eq_true, List.all_eq_true] at ha ⊢
        exact ⟨ha.1, fun f hf => ha.2 f (List.mem_filter.1 hf).1⟩)]
    · omega
/-- The numbers of the first k facts, as Core gathers them. -/
def gatherP (fs : List Fct) (k : Nat) : List Int := ((fs.take k).map (·.id)).filter fun n => decide (0 < n)
theorem gather_step {fs : List Fct} {k : Nat} (h : k < fs.length) : gatherP fs (k + 1) = gatherP fs k ++ (if 0 < (rFct fs (k : Int)).id then [(rFct fs (k : Int)).id] else []) := by
  unfold gatherP
  rw [take_get (z := ⟨0, 0, false, 0, 0, 0, ⟨0, 0⟩, 0⟩) h, List.map_append, List.filter_append, rFct_nat]
  congr 1
  generalize fs.getD k ⟨0, 0, false, 0, 0, 0, ⟨0, 0⟩, 0⟩ = x
  by_cases h0 : 0 < x.id <;> simp [List.filter, h0]
theorem gather_len (fs : List Fct) (k : Nat) : (gatherP fs k).length ≤ k := by
  unfold gatherP
  refine Nat.le_trans (List.length_filter_le _ _) ?_
  simp; omega
theorem sortI_length (l : List Int) : (sortI l).length = l.length := by rw [sort_eq, sortJ_length]
end Go.Proofs.Ytkkimlicabbooaa

/-
  Core of package search.
-/
namespace Go.Proofs.Ytkkimlicabbooaa
open Go.RowKit Go.Proofs.YtkkimlicabbooaaW.PrintWords Bs
attribute [local go_sem] Later.cell? Later.frozen?
set_option linter.unusedVariables false
set_option linter.unusedSimpArgs false

set_option maxHeartbeats 6400000 in
set_option maxRecDepth 100000 in
theorem core_c (A1 A2 : Option Addr) (n nf c1 c2 : Nat) (bs : List Bx) (fs : List Fct) (w : World) (h1 : kBx.C w A1 n bs) (h2 : kFct.C w A2 nf fs) (hnf : nf ≤ 12) :
    Calls Try.prog 22 #[.agg #[.slice A1 n c1, .slice A2 nf c2]] w fun e w' => ∃ v, e = .returned (.tuple #[v, .int .i64 (coreP ⟨bs, fs⟩).2]) ∧ kInt.R 3 w' w.heap.size (fun _ => True) v (coreP ⟨bs, fs⟩).1 ∧ Below w.heap.size w w' := by
  have H1 := Aside0.mk h1
  have H2 := Aside0.mk h2
  have HL2 := Aside0.mk h2.1
  clear h1 h2
  go_enter Try.func22, Try.ntmps22
  go_wp2_with fail
  generalize hW : (w.alloc _ : World) = W
  have e0 : W.cell? ⟨w.heap.size, 0, none⟩ = some (.slice A1 n c1) := by subst hW; go_simp
  have e1 : W.cell? ⟨w.heap.size, 1, none⟩ = some (.slice A2 nf c2) := by subst hW; go_simp
  have HBW := Aside0.mk (show Below w.heap.size w W by subst hW; exact (by repeat (first | (with_reducible exact Below.refl _ _) | (with_reducible exact HB.out) | (with_reducible assumption) | (with_reducible apply below_alloc) | (with_reducible apply below_drew) | (with_reducible apply pw_below_drewN) | (with_reducible refine bstep' ?_ (by assumption)) | ((with_reducible refine Below.setCell ?_ ?_ _); rotate_left; (first | (dsimp only; omega) | (simp; done) | (simp; omega) | omega)))))
  have hz : W.heap.size = w.heap.size + 1 := by subst hW; simp
  clear hW
  refine (solved_c _ _ n nf _ _ bs fs _ (Kd.C_below H1.out HBW.out) (Kd.C_below H2.out HBW.out)).mono ?_
  rintro e w1 ⟨v, rfl, hv, hb⟩
  have e0 := (hb.cell (p := ⟨w.heap.size, 0, none⟩) (by dsimp only; omega)).trans e0
  have e1 := (hb.cell (p := ⟨w.heap.size, 1, none⟩) (by dsimp only; omega)).trans e1
  have HB1 := Aside0.mk (HBW.out.trans (hb.mono (by omega)))
  have hlt0 : w.heap.size < w1.heap.size := by have := hb.size; omega
  obtain ⟨A3, c3, rfl⟩ := Kd.R_slice hv
  clear hv hb hz HBW
  generalize (solvedP ⟨bs, fs⟩).parts.length = L3 at *
  by_cases he : (solvedP ⟨bs, fs⟩).err = 0
  · have heb : ((solvedP ⟨bs, fs⟩).err != 0) = false := by simp [he]
    have heb2 : ((solvedP ⟨bs, fs⟩).err == 0) = true := by simp [he]
    have HCK := Aside0.mk (solved_ok he).1
    cases hE : (solvedP ⟨bs, fs⟩).empty with
    | false =>
      have HP := Aside0.mk (show coreP ⟨bs, fs⟩ = ([], 5) by unfold coreP; rw [if_pos he, hE]; rfl)
      have hbx := HB1.out
      clear he
      go_wp2_with fail
      exact bodyPost_ret (v := .tuple #[.slice none 0 0, .int .i64 5]) (by simp [results, Try.results22, go_sem, *]) rfl ⟨.slice none 0 0, by rw [HP.out], by rw [HP.out]; exact Kd.R_nil _ _ _ _ _, (by repeat (first | (with_reducible exact Below.refl _ _) | (with_reducible exact HB.out) | (with_reducible assumption) | (with_reducible apply below_alloc) | (with_reducible apply below_drew) | (with_reducible apply pw_below_drewN) | (with_reducible refine bstep' ?_ (by assumption)) | ((with_reducible refine Below.setCell ?_ ?_ _); rotate_left; (first | (dsimp only; omega) | (simp; done) | (simp; omega) | omega))))⟩
    | true =>
      have HP := Aside0.mk (show coreP ⟨bs, fs⟩ = coreGo ⟨bs, fs⟩ (idsP ⟨bs, fs⟩) (idsP ⟨bs, fs⟩) by unfold coreP; rw [if_pos he, hE]; rfl)
      clear he
      go_wp2_with fail
      generalize hW2 : (w1.alloc _ : World) = W2
      have e0 : W2.cell? ⟨w.heap.size, 0, none⟩ = some (.slice A1 n c1) := by subst hW2; go_simp
      have e1 : W2.cell? ⟨w.heap.size, 1, none⟩ = some (.slice A2 nf c2) := by subst hW2; go_simp
      have HB2 := Aside0.mk (show Below w.heap.size w W2 by have hbx := HB1.out; subst hW2; exact (by repeat (first | (with_reducible exact Below.refl _ _) | (with_reducible exact HB.out) | (with_reducible assumption) | (with_reducible apply below_alloc) | (with_reducible apply below_drew) | (with_reducible apply pw_below_drewN) | (with_reducible refine bstep' ?_ (by assumption)) | ((with_reducible refine Below.setCell ?_ ?_ _); rotate_left; (first | (dsimp only; omega) | (simp; done) | (simp; omega) | omega)))))
      have hlt2 : w.heap.size < W2.heap.size := by subst hW2; simp; omega
      clear hW2
      have E02 := Aside0.mk e0
      have E12 := Aside0.mk e1
      go_loopg [6, 30] nf (fun m lv cnt wr => ∃ k : Nat, k + m = nf ∧ cnt = .int .i64 k ∧ Aside0 (kInt.R 3 wr W2.heap.size (fun _ => True) lv (gatherP fs k)) ∧ Aside0 (Below W2.heap.size W2 wr))
      case atStart => exact ⟨0, by omega, rfl, ⟨Kd.R_nil _ _ _ _ _⟩, ⟨Below.refl _ _⟩⟩
      case round =>
        obtain ⟨k, hk, rfl, HO, HB⟩ := hrel
        by_cases hl : k < nf
        · obtain ⟨b', off, rfl, hb', f0, f1, f2, f3, f4, f5, f6, f7, f8⟩ := at_Fct (Kd.C_below H2.out (HB2.out.trans (HB.out.mono HB2.out.size))) (k : Int) (by omega) (by omega)
          simp only [Int.toNat_natCast] at f0 f1 f2 f3 f4 f5 f6 f7 f8
          have HST := Aside0.mk (gather_step (fs := fs) (k := k) (by have := HL2.out; omega))
          have HLX := Aside0.mk (gather_len fs k)
          generalize rFct fs (k : Int) = f at *
          generalize gatherP fs k = xs at *
          have hbz := HB.out
          by_cases hid : 0 < f.id
          · have hidb : decide (0 < f.id) = true := decide_eq_true hid
            have HID := Aside0.mk hid
            go_wp2_with (at_builtin; refine Kd.R_append kInt (w0 := W2) W2.heap.size rfl _ _ 52 3 (.int .i64 0) 8 rfl Try.underlying52 infoInt rfl (by decide) (by omega) u6 xs f.id [.int .i64 f.id] (fun _ => True) (fun _ => False) rfl (by rw [World.size_alloc]; rfl) rfl (fun _ h => h.elim) (fun _ _ => trivial) (Kd.R_below HO.out (by repeat (first | (with_reducible exact Below.refl _ _) | (with_reducible exact HB.out) | (with_reducible assumption) | (with_reducible apply below_alloc) | (with_reducible apply below_drew) | (with_reducible apply pw_below_drewN) | (with_reducible refine bstep' ?_ (by assumption)) | ((with_reducible refine Below.setCell ?_ ?_ _); rotate_left; (first | (dsimp only; omega) | (simp; done) | (simp; omega) | omega))))) (bstep' HB.out (by repeat (first | (with_reducible exact Below.refl _ _) | (with_reducible exact HB.out) | (with_reducible assumption) | (with_reducible apply below_alloc) | (with_reducible apply below_drew) | (with_reducible apply pw_below_drewN) | (with_reducible refine bstep' ?_ (by assumption)) | ((with_reducible refine Below.setCell ?_ ?_ _); rotate_left; (first | (dsimp only; omega) | (simp; done) | (simp; omega) | omega))))) ?aS ?aL ?_; (case aS => exact (Below.size (show Below W2.heap.size W2 _ from bstep' HB.out (by repeat (first | (with_reducible exact Below.refl _ _) | (with_reducible exact HB.out) | (with_reducible assumption) | (with_reducible apply below_alloc) | (with_reducible apply below_drew) | (with_reducible apply pw_below_drewN) | (with_reducible refine bstep' ?_ (by assumption)) | ((with_reducible refine Below.setCell ?_ ?_ _); rotate_left; (first | (dsimp only; omega) | (simp; done) | (simp; omega) | omega))))))); (case aL => have := HLX.out; omega); intro v1 w9 hv1 hb9 _ _)
            go_roundg (gk - 1)
            case measure => omega
            case rel => exact ⟨k + 1, by omega, by go_num, ⟨by rw [HST.out, if_pos HID.out]; exact hv1⟩, ⟨hb9⟩⟩
          · have hidb : decide (0 < f.id) = false := decide_eq_false hid
            have HID := Aside0.mk hid
            clear hid
            go_wp2_with fail
            go_roundg (gk - 1)
            case measure => omega
            case rel => exact ⟨k + 1, by omega, by go_num, ⟨by rw [HST.out, if_neg (by have := HID.out; omega), List.append_nil]; exact Kd.R_below HO.out (by repeat (first | (with_reducible exact Below.refl _ _) | (with_reducible exact HB.out) | (with_reducible assumption) | (with_reducible apply below_alloc) | (with_reducible apply below_drew) | (with_reducible apply pw_below_drewN) | (with_reducible refine bstep' ?_ (by assumption)) | ((with_reducible refine Below.setCell ?_ ?_ _); rotate_left; (first | (dsimp only; omega) | (simp; done) | (simp; omega) | omega))))⟩, ⟨bstep' HB.out (by repeat (first | (with_reducible exact Below.refl _ _) | (with_reducible exact HB.out) | (with_reducible assumption) | (with_reducible apply below_alloc) | (with_reducible apply below_drew) | (with_reducible apply pw_below_drewN) | (with_reducible refine bstep' ?_ (by assumption)) | ((with_reducible refine Below.setCell ?_ ?_ _); rotate_left; (first | (dsimp only; omega) | (simp; done) | (simp; omega) | omega))))⟩⟩
        · obtain rfl : gk = 0 := by omega
          obtain rfl : nf = k := by omega
          have HGA := Aside0.mk (show gatherP fs nf = (fs.map (·.id)).filter fun n => decide (0 < n) by unfold gatherP; rw [List.take_of_length_le (by have := HL2.out; omega)])
          have HGL := Aside0.mk (gather_len fs nf)
          generalize gatherP fs nf = raw at *
          obtain ⟨A4, c4, e4⟩ := Kd.R_slice HO.out
          obtain ⟨L4, hL4⟩ : ∃ x, x = raw.length := ⟨_, rfl⟩
          rw [← hL4] at e4
          subst e4
          have hl4 : L4 ≤ 12 := by have := HGL.out; omega
          have e1 := (HB.out.cell (p := ⟨w.heap.size, 1, none⟩) hlt2).trans e1
          have e0 := (HB.out.cell (p := ⟨w.heap.size, 0, none⟩) hlt2).trans e0
          have hbz := HB.out.size
          have hlt3 : w.heap.size < wr.heap.size := by omega
          have HL4 := Aside0.mk hL4
          clear HGL hL4
          go_wp2_with fail
          refine (sort_c A4 L4 c4 W2.heap.size raw _ HO.out hl4).mono ?_
          rintro e w3 ⟨rfl, hr3, hg3⟩
          have HR3 := Aside0.mk hr3
          have HB3 := Aside0.mk (HB.out.grown hg3 HB.out.size (fun k hk => ((Kd.R_bound HO.out).1 k hk).2.1))
          clear hr3 hg3
          go_wp2_with fail
          refine (compact_c A4 L4 c4 W2.heap.size (sortI raw) _ HR3.out (by omega)).mono ?_
          rintro e w4 ⟨v4, rfl, hr4, hg4⟩
          have HB4 := Aside0.mk (HB3.out.grown hg4 HB3.out.size (fun k hk => ((Kd.R_bound HR3.out).1 k hk).2.1))
          have HID := Aside0.mk (show compactI (sortI raw) = idsP ⟨bs, fs⟩ by unfold idsP; rw [HGA.out])
          have HIL := Aside0.mk (show (compactI (sortI raw)).length ≤ 12 from Nat.le_trans (compactI_len _) (by rw [sortI_length]; have := HL4.out; omega))
          generalize compactI (sortI raw) = ids at *
          have HR4 := Aside0.mk hr4
          obtain ⟨A5, c5, rfl⟩ := Kd.R_slice hr4
          have HC4 := Aside0.mk (row_C hr4).2
          clear hr4 hg4 HR3 HB3 HO HB HGA
          obtain ⟨L5, hL5⟩ : ∃ x, x = ids.length := ⟨_, rfl⟩
          rw [← hL5] at HC4 HR4 ⊢
          have HL5 := Aside0.mk hL5
          clear hL5
          go_wp2_with fail
          refine (cloneInt_c A5 L5 c5 ids _ HC4.out (by have := HL5.out; have := HIL.out; omega)).mono ?_
          rintro e w5 ⟨v5, rfl, hr5, hb5⟩
          have HB5 := Aside0.mk (bstep' HB4.out hb5)
          have HL := Aside0.mk (Kd.R_below HR4.out hb5)
          obtain ⟨A6, c6, e6⟩ := Kd.R_slice hr5
          rw [← HL5.out] at e6
          subst e6
          have HC5 := Aside0.mk (row_C hr5).2
          clear hr5 hb5 HC4 HR4 HB4
          go_wp2_with fail
          have hz5 := HB5.out.size
          have hl5 : L5 ≤ 12 := by have := HL5.out; have := HIL.out; omega
          have hlt5 : w.heap.size < w5.heap.size := by omega
          have HX := Aside0.mk (HB2.out.trans (HB5.out.mono HB2.out.size))
          have E0 := Aside0.mk ((HB5.out.cell (p := ⟨w.heap.size, 0, none⟩) hlt2).trans E02.out)
          have E1 := Aside0.mk ((HB5.out.cell (p := ⟨w.heap.size, 1, none⟩) hlt2).trans E12.out)
          have HPG := Aside0.mk (show coreP ⟨bs, fs⟩ = coreGo ⟨bs, fs⟩ ids ids by rw [HP.out, HID.out])
          have HLL := Aside0.mk (Kd.R_lower HL.out HB2.out.size)
          clear e0 e1 HP HID HL hbz hlt3 hz5 hl4
          go_loopg [6, 50] L5 (fun m lv cnt wr => ∃ (k : Nat) (L : List Int), k + m = L5 ∧ cnt = .int .i64 k ∧ Aside0 (kInt.R 3 wr w.heap.size (fun _ => True) lv L) ∧ Aside0 (L.length ≤ 12) ∧ Aside0 (coreP ⟨bs, fs⟩ = coreGo ⟨bs, fs⟩ (ids.drop k) L) ∧ Aside0 (Below w5.heap.size w5 wr))
          case atStart => exact ⟨0, ids, by omega, rfl, HLL, HIL, HPG, ⟨Below.refl _ _⟩⟩
          case round =>
            obtain ⟨k, L, hk2, rfl, HO, HLN, HCG, HB⟩ := hrel
            obtain ⟨A7, c7, e7⟩ := Kd.R_slice HO.out
            obtain ⟨n7, hn7⟩ : ∃ x, x = L.length := ⟨_, rfl⟩
            rw [← hn7] at e7
            subst e7
            have hn7l : n7 ≤ 12 := by have := HLN.out; omega
            have HN7 := Aside0.mk hn7
            clear hn7
            have hbs := HB.out.size
            by_cases hlp : k < L5
            · obtain ⟨b6, off6, rfl, hb6, x0⟩ := at_Int (Kd.C_below HC5.out HB.out) (k : Int) (by omega) (by omega)
              simp only [Int.toNat_natCast] at x0
              have HDR := Aside0.mk (drop_get (l := ids) (k := k) (z := 0) (by have := HL5.out; omega))
              rw [← rInt_nat] at HDR
              generalize rInt ids (k : Int) = x at *
              go_wp2_with fail
              generalize hW6 : (wr.alloc _ : World) = W6
              have x6 : W6.cell? ⟨wr.heap.size, 0, none⟩ = some (.int .i64 x) := by subst hW6; go_simp
              have hb6' : Below wr.heap.size wr W6 := by subst hW6; exact (by repeat (first | (with_reducible exact Below.refl _ _) | (with_reducible exact HB.out) | (with_reducible assumption) | (with_reducible apply below_alloc) | (with_reducible apply below_drew) | (with_reducible apply pw_below_drewN) | (with_reducible refine bstep' ?_ (by assumption)) | ((with_reducible refine Below.setCell ?_ ?_ _); rotate_left; (first | (dsimp only; omega) | (simp; done) | (simp; omega) | omega))))
              have hz6 : W6.heap.size = wr.heap.size + 1 := by subst hW6; simp
              clear hW6 x0 hb6
              refine (cloneInt_c A7 n7 c7 L _ (Kd.C_below (row_C HO.out).2 hb6') (by omega)).mono ?_
              rintro e w7 ⟨v7, rfl, hr7, hb7⟩
              obtain ⟨A8, c8, e8⟩ := Kd.R_slice hr7
              rw [← HN7.out] at e8
              subst e8
              have HB7 := Aside0.mk (show Below wr.heap.size wr w7 from bstep' hb6' hb7)
              have x7 := (hb7.cell (p := ⟨wr.heap.size, 0, none⟩) (by dsimp only; omega)).trans x6
              have HR7 := Aside0.mk hr7
              have HW6 := Aside0.mk hz6
              have hz7 := hb7.size
              clear hr7 hb7 hb6' x6
              go_wp2_with fail
              refine (deleteFunc_c A8 n7 c8 wr.heap.size W6.heap.size L x _ HR7.out x7 (fun g hg e => by
                subst hg
                have := ((Kd.R_bound HR7.out).1 g rfl).2.1
                omega) (by omega)).mono ?_
              rintro e w8 ⟨v8, rfl, hr8, hg8⟩
              have HB8 := Aside0.mk (HB7.out.grown hg8 (by omega) (fun k hk => Nat.le_trans (by omega) ((Kd.R_bound HR7.out).1 k hk).2.1))
              have HR8 := Aside0.mk (Kd.R_lower hr8 (show wr.heap.size ≤ W6.heap.size by omega))
              obtain ⟨A9, c9, rfl⟩ := Kd.R_slice hr8
              obtain ⟨n9, hn9⟩ : ∃ y, y = (othersP L x).length := ⟨_, rfl⟩
              rw [← hn9] at HR8 ⊢
              have HN9 := Aside0.mk hn9
              have hn9l : n9 ≤ 12 := by rw [hn9]; exact Nat.le_trans (others_len _ _) HLN.out
              have hz8 := hg8.size
              have hlt8 : w.heap.size < w8.heap.size := by omega
              clear hn9 hr8 hg8 x7 hz7
              have e0 := ((HB.out.trans (HB8.out.mono HB.out.size)).cell (p := ⟨w.heap.size, 0, none⟩) hlt5).trans E0.out
              have e1 := ((HB.out.trans (HB8.out.mono HB.out.size)).cell (p := ⟨w.heap.size, 1, none⟩) hlt5).trans E1.out
              go_wp2_with fail
              generalize hW9 : (w8.alloc _ : World) = W9
              have b9 : W9.cell? ⟨w8.heap.size, 0, none⟩ = some (.slice A9 n9 c9) := by subst hW9; go_simp
              have hb9 : Below w8.heap.size w8 W9 := by subst hW9; exact (by repeat (first | (with_reducible exact Below.refl _ _) | (with_reducible exact HB.out) | (with_reducible assumption) | (with_reducible apply below_alloc) | (with_reducible apply below_drew) | (with_reducible apply pw_below_drewN) | (with_reducible refine bstep' ?_ (by assumption)) | ((with_reducible refine Below.setCell ?_ ?_ _); rotate_left; (first | (dsimp only; omega) | (simp; done) | (simp; omega) | omega))))
              have hz9 : W9.heap.size = w8.heap.size + 1 := by subst hW9; simp
              clear hW9 e0 e1
              have HB9 := Aside0.mk (show Below w5.heap.size w5 W9 from bstep' (HB.out.trans (HB8.out.mono HB.out.size)) hb9)
              have HR9 := Aside0.mk (Kd.R_below HR8.out hb9)
              have HC9 := Aside0.mk (show kInt.C W9 A9 n9 (othersP L x) from (row_C HR9.out).2)
              have HX9 := Aside0.mk (HX.out.trans (HB9.out.mono HX.out.size))
              have HBD := Aside0.mk (And.intro (check_valid HCK.out).1 (check_valid HCK.out).2.1)
              have hz8b := HB8.out.size
              have hz10 : w5.heap.size < W9.heap.size := by omega
              have hz11 : wr.heap.size < W9.heap.size := by omega
              have hz12 : w8.heap.size < W9.heap.size := by omega
              have HBR := Aside0.mk (show Below wr.heap.size wr W9 from bstep' HB8.out hb9)
              clear hb9 hz9 hz8
              refine (pickedCore_c _ _ n nf _ _ w8.heap.size (keepP (othersP L x)) bs fs _ (Kd.C_below H1.out HX9.out) (Kd.C_below H2.out HX9.out) (by have := HBD.out.1; have := H1.out.1; omega) (by omega) (fun y Wy hWy => keepCore_c A9 n9 c9 w8.heap.size (othersP L x) y Wy ((hWy.cell (p := ⟨w8.heap.size, 0, none⟩) hz12).trans b9) (Kd.C_below HC9.out hWy) (by omega))).mono ?_
              rintro e w10 ⟨v1, v2, rfl, hv1, hv2, hb10⟩
              obtain ⟨A10, c10, rfl⟩ := Kd.R_slice hv1
              obtain ⟨A11, c11, rfl⟩ := Kd.R_slice hv2
              have HC1 := Aside0.mk (row_C hv1).2
              have HC2 := Aside0.mk (row_C hv2).2
              have b10 := (hb10.cell (p := ⟨w8.heap.size, 0, none⟩) hz12).trans b9
              have HB10 := Aside0.mk hb10
              clear hv1 hv2 b9
              generalize bs.length = M1 at *
              generalize (fs.filter fun f => keepP (othersP L x) f.id).length = M2 at *
              go_wp2_with fail
              refine (find_c A10 A11 M1 M2 c10 c11 bs (fs.filter fun f => keepP (othersP L x) f.id) _ HC1.out HC2.out (check_pick HCK.out _)).mono ?_
              rintro e w11 ⟨v12, rfl, hv12, hb11⟩
              obtain ⟨A12, c12, rfl⟩ := Kd.R_slice hv12
              have b11 := (hb11.cell (p := ⟨w8.heap.size, 0, none⟩) (Nat.lt_of_lt_of_le hz12 HB10.out.size)).trans b10
              have HB11 := Aside0.mk (bstep' HB10.out hb11)
              have hz13 : w8.heap.size < w11.heap.size := Nat.lt_of_lt_of_le hz12 (Nat.le_trans HB10.out.size hb11.size)
              clear hv12 b10 hb10 hb11
              have HGO := Aside0.mk (show coreGo ⟨bs, fs⟩ (ids.drop k) L = if (findP ⟨bs, fs.filter fun f => keepP (othersP L x) f.id⟩).err = 0 then coreGo ⟨bs, fs⟩ (ids.drop (k + 1)) (if (findP ⟨bs, fs.filter fun f => keepP (othersP L x) f.id⟩).empty then othersP L x else L) else ([], (findP ⟨bs, fs.filter fun f => keepP (othersP L x) f.id⟩).err) by rw [HDR.out]; rfl)
              generalize (findP ⟨bs, fs.filter fun f => keepP (othersP L x) f.id⟩).parts.length = M3 at *
              generalize (findP ⟨bs, fs.filter fun f => keepP (othersP L x) f.id⟩).err = ER at *
              generalize (findP ⟨bs, fs.filter fun f => keepP (othersP L x) f.id⟩).empty = EM at *
              by_cases hER : ER = 0
              · have hERb : (ER != 0) = false := by simp [hER]
                have HER := Aside0.mk hER
                clear hER
                cases EM with
                | true =>
                  have hbx := HB11.out
                  go_wp2_with fail
                  go_roundg (gk - 1)
                  case measure => omega
                  case rel => exact ⟨k + 1, othersP L x, by omega, by go_num, ⟨Kd.R_lower (Kd.R_below HR9.out (show Below W9.heap.size W9 _ from (by repeat (first | (with_reducible exact Below.refl _ _) | (with_reducible exact HB.out) | (with_reducible assumption) | (with_reducible apply below_alloc) | (with_reducible apply below_drew) | (with_reducible apply pw_below_drewN) | (with_reducible refine bstep' ?_ (by assumption)) | ((with_reducible refine Below.setCell ?_ ?_ _); rotate_left; (first | (dsimp only; omega) | (simp; done) | (simp; omega) | omega)))))) (show w.heap.size ≤ wr.heap.size by omega)⟩, ⟨by have := HN9.out; omega⟩, ⟨by rw [HCG.out, HGO.out, if_pos HER.out]; rfl⟩, ⟨bstep' HB9.out (show Below W9.heap.size W9 _ from (by repeat (first | (with_reducible exact Below.refl _ _) | (with_reducible exact HB.out) | (with_reducible assumption) | (with_reducible apply below_alloc) | (with_reducible apply below_drew) | (with_reducible apply pw_below_drewN) | (with_reducible refine bstep' ?_ (by assumption)) | ((with_reducible refine Below.setCell ?_ ?_ _); rotate_left; (first | (dsimp only; omega) | (simp; done) | (simp; omega) | omega)))))⟩⟩
                | false =>
                  have hbx := HB11.out
                  go_wp2_with fail
                  go_roundg (gk - 1)
                  case measure => omega
                  case rel => exact ⟨k + 1, L, by omega, by go_num, ⟨Kd.R_below HO.out (bstep' HBR.out (show Below W9.heap.size W9 _ from (by repeat (first | (with_reducible exact Below.refl _ _) | (with_reducible exact HB.out) | (with_reducible assumption) | (with_reducible apply below_alloc) | (with_reducible apply below_drew) | (with_reducible apply pw_below_drewN) | (with_reducible refine bstep' ?_ (by assumption)) | ((with_reducible refine Below.setCell ?_ ?_ _); rotate_left; (first | (dsimp only; omega) | (simp; done) | (simp; omega) | omega))))))⟩, HLN, ⟨by rw [HCG.out, HGO.out, if_pos HER.out]; rfl⟩, ⟨bstep' HB9.out (show Below W9.heap.size W9 _ from (by repeat (first | (with_reducible exact Below.refl _ _) | (with_reducible exact HB.out) | (with_reducible assumption) | (with_reducible apply below_alloc) | (with_reducible apply below_drew) | (with_reducible apply pw_below_drewN) | (with_reducible refine bstep' ?_ (by assumption)) | ((with_reducible refine Below.setCell ?_ ?_ _); rotate_left; (first | (dsimp only; omega) | (simp; done) | (simp; omega) | omega)))))⟩⟩
              · have hERb : (ER != 0) = true := by simp [hER]
                have HER := Aside0.mk hER
                clear hER
                have hbx := HX9.out.trans (HB11.out.mono HX9.out.size)
                have HCE := Aside0.mk (show coreP ⟨bs, fs⟩ = ([], ER) by rw [HCG.out, HGO.out, if_neg HER.out])
                go_wp2_with fail
                exact bodyPost_ret (v := .tuple #[.slice none 0 0, .int .i64 ER]) (by simp [results, Try.results22, go_sem, *]) rfl ⟨.slice none 0 0, by rw [HCE.out], by rw [HCE.out]; exact Kd.R_nil _ _ _ _ _, (by repeat (first | (with_reducible exact Below.refl _ _) | (with_reducible exact HB.out) | (with_reducible assumption) | (with_reducible apply below_alloc) | (with_reducible apply below_drew) | (with_reducible apply pw_below_drewN) | (with_reducible refine bstep' ?_ (by assumption)) | ((with_reducible refine Below.setCell ?_ ?_ _); rotate_left; (first | (dsimp only; omega) | (simp; done) | (simp; omega) | omega))))⟩
            · obtain rfl : gk = 0 := by omega
              obtain rfl : L5 = k := by omega
              have HCE := Aside0.mk (show coreP ⟨bs, fs⟩ = (L, 0) by rw [HCG.out, List.drop_of_length_le (by have := HL5.out; omega)]; rfl)
              have hbx := HX.out.trans (HB.out.mono HX.out.size)
              by_cases hn0 : n7 = 0
              · have hnb : ((n7 : Int) == 0) = true := by simp [hn0]
                have HLE := Aside0.mk (show L = [] from List.eq_nil_of_length_eq_zero (by have := HN7.out; omega))
                clear hn0
                go_wp2_with fail
                exact bodyPost_ret (v := .tuple #[.slice none 0 0, .int .i64 0]) (by simp [results, Try.results22, go_sem, *]) rfl ⟨.slice none 0 0, by rw [HCE.out], by rw [HCE.out, HLE.out]; exact Kd.R_nil _ _ _ _ _, (by repeat (first | (with_reducible exact Below.refl _ _) | (with_reducible exact HB.out) | (with_reducible assumption) | (with_reducible apply below_alloc) | (with_reducible apply below_drew) | (with_reducible apply pw_below_drewN) | (with_reducible refine bstep' ?_ (by assumption)) | ((with_reducible refine Below.setCell ?_ ?_ _); rotate_left; (first | (dsimp only; omega) | (simp; done) | (simp; omega) | omega))))⟩
              · have hnb : ((n7 : Int) == 0) = false := by simp [hn0]
                clear hn0
                go_wp2_with fail
                exact bodyPost_ret (v := .tuple #[.slice A7 n7 c7, .int .i64 0]) (by simp [results, Try.results22, go_sem, *]) rfl ⟨.slice A7 n7 c7, by rw [HCE.out], by rw [HCE.out]; exact HO.out, (by repeat (first | (with_reducible exact Below.refl _ _) | (with_reducible exact HB.out) | (with_reducible assumption) | (with_reducible apply below_alloc) | (with_reducible apply below_drew) | (with_reducible apply pw_below_drewN) | (with_reducible refine bstep' ?_ (by assumption)) | ((with_reducible refine Below.setCell ?_ ?_ _); rotate_left; (first | (dsimp only; omega) | (simp; done) | (simp; omega) | omega))))⟩
  · have heb : ((solvedP ⟨bs, fs⟩).err != 0) = true := by simp [he]
    have heb2 : ((solvedP ⟨bs, fs⟩).err == 0) = false := by simp [he]
    have HP := Aside0.mk (show coreP ⟨bs, fs⟩ = ([], (solvedP ⟨bs, fs⟩).err) by unfold coreP; rw [if_neg he])
    have hbx := HB1.out
    generalize (solvedP ⟨bs, fs⟩).err = E at *
    clear he
    go_wp2_with fail
    exact bodyPost_ret (v := .tuple #[.slice none 0 0, .int .i64 E]) (by simp [results, Try.results22, go_sem, *]) rfl ⟨.slice none 0 0, by rw [HP.out], by rw [HP.out]; exact Kd.R_nil _ _ _ _ _, (by repeat (first | (with_reducible exact Below.refl _ _) | (with_reducible exact HB.out) | (with_reducible assumption) | (with_reducible apply below_alloc) | (with_reducible apply below_drew) | (with_reducible apply pw_below_drewN) | (with_reducible refine bstep' ?_ (by assumption)) | ((with_reducible refine Below.setCell ?_ ?_ _); rotate_left; (first | (dsimp only; omega) | (simp; done) | (simp; omega) | omega))))⟩
end Go.Proofs.Ytkkimlicabbooaa

/-
  The law's own helpers: square, Example.
-/
namespace Go.Proofs.Ytkkimlicabbooaa
open Go.RowKit Go.Proofs.YtkkimlicabbooaaW.PrintWords Bs
attribute [local go_sem] Later.cell? Later.frozen?
set_option linter.unusedVariables false
set_option linter.unusedSimpArgs false

set_option maxHeartbeats 400000 in
theorem square_c (x0 x1 y0 y1 : Int) (w : World) :
    Calls Try.prog 29 #[.int .i64 x0, .int .i64 x1, .int .i64 y0, .int .i64 y1] w fun e w' => e = .returned (.agg #[.int .i64 x0, .int .i64 x1, .int .i64 y0, .int .i64 y1]) ∧ w' = w.alloc (.cells #[.int .i64 x0, .int .i64 x1, .int .i64 y0, .int .i64 y1] 42) := by
  go_enter Try.func29, Try.ntmps29
  go_wp2_with fail
  exact bodyPost_ret (v := .agg #[.int .i64 x0, .int .i64 x1, .int .i64 y0, .int .i64 y1]) (by simp [results, Try.results29, go_sem, *]) rfl ⟨rfl, rfl⟩

end Go.Proofs.Ytkkimlicabbooaa

/-
  The law's own helpers: Example.
-/
namespace Go.Proofs.Ytkkimlicabbooaa
open Go.RowKit Go.Proofs.YtkkimlicabbooaaW.PrintWords Bs
attribute [local go_sem] Later.cell? Later.frozen?
set_option linter.unusedVariables false
set_option linter.unusedSimpArgs false

/-- A block's cells, whole. -/
def Cls (w : World) (b : Nat) (cs : Array Value) (t : Nat) : Prop := w.heap[b]? = some (.cells cs t)
section
variable {w W W2 : World} {b t n g : Nat} {cs : Array Value} {row : Option Nat}
theorem Cls.lt (h : Cls w b cs t) : b < w.heap.size := by
  unfold Cls at h
  by_cases hl : b < w.heap.size
  · exact hl
  · rw [Array.getElem?_eq_none (by omega)] at h; cases h
theorem Cls.new : Cls (W.alloc (.cells cs t)) W.heap.size cs t := heap_alloc_new _ _
theorem Cls.new3 (h : b = W.heap.size) : Cls (W.alloc (.cells cs t)) b cs t := by subst h; exact heap_alloc_new _ _
theorem Cls.old {o : Obj} (h : Cls W b cs t) : Cls (W.alloc o) b cs t := (heap_alloc_lt _ _ h.lt).trans h
theorem Cls.set {p : Addr} {u : Value} (h : Cls W b cs t) (hne : p.block ≠ b) : Cls (W.setCell p u) b cs t := (Below.heap_setCell _ _ _ _ (fun e => hne e.symm)).trans h
theorem Cls.below (h : Cls W b cs t) (hb : Below W.heap.size W W2) : Cls W2 b cs t := (hb.block _ h.lt).trans h
theorem Cls.drew (h : Cls W b cs t) : Cls W.drew b cs t := h
theorem Cls.cell (h : Cls W b cs t) (i : Nat) (u : Value) (hu : cs[i]? = some u) : W.cell? ⟨b, i, none⟩ = some u := by
  unfold Cls at h
  unfold World.cell?
  simp [h, hu]
end
theorem C_mk {α : Type} (d : Kd α) (enc : α → List Value) (hK : ∀ w x, d.K w x (enc x)) {w : World} {b : Nat} {cs : Array Value} {t : Nat} {xs : List α} (h : Cls w b cs t) (hn : xs.length ≤ 9223372036854775807) (hx : ∀ j p, xs[j]? = some p → ∀ i u, (enc p)[i]? = some u → cs[j * d.sz + i]? = some u) : d.C w (some ⟨b, 0, none⟩) xs.length xs :=
  ⟨rfl, hn, fun _ => ⟨_, rfl, fun j p hj => ⟨enc p, d.K_len (hK w p), hK w p, fun i u hu => by
    have := h.cell _ _ (hx j p hj i u hu)
    rw [show (Addr.mk b 0 none).add (j * d.sz + i) = ⟨b, j * d.sz + i, none⟩ by
      unfold Addr.add
      split
      · rename_i h0
        first | rw [h0] | (simp at h0; rw [h0.1, h0.2]) | (rw [show j * d.sz + i = 0 by simpa using h0])
      · simp]
    exact this⟩⟩⟩
theorem ex_bx {w : World} {b : Nat} (h : Cls w b #[.int .i64 0, .int .i64 0, .int .i64 0, .int .i64 0, .int .i64 (-5), .int .i64 5, .int .i64 (-5), .int .i64 5] 42) : kBx.C w (some ⟨b, 0, none⟩) 2 exBoxes :=
  C_mk kBx encBx (fun _ _ => rfl) h (by decide) (fun j p hj i u hu => by
    rcases j with _ | _ | j
    · injection hj with hj; subst hj
      rcases i with _ | _ | _ | _ | i <;> first | exact hu | cases hu
    · injection hj with hj; subst hj
      rcases i with _ | _ | _ | _ | i <;> first | exact hu | cases hu
    · simp [exBoxes] at hj)
theorem ex_fct {w : World} {b : Nat} (h : Cls w b #[.int .i64 4, .int .i64 1, .bool false, .int .i64 0, .int .i64 1, .int .i64 0, .int .i64 25, .int .i64 25, .int .i64 0, .int .i64 7, .int .i64 3, .bool false, .int .i64 0, .int .i64 1, .int .i64 0, .int .i64 0, .int .i64 0, .int .i64 0] 33) : kFct.C w (some ⟨b, 0, none⟩) 2 [exDist, exEast] :=
  C_mk kFct encFct (fun _ _ => rfl) h (by decide) (fun j p hj i u hu => by
    rcases j with _ | _ | j
    · injection hj with hj; subst hj
      rcases i with _ | _ | _ | _ | _ | _ | _ | _ | _ | i <;> first | exact hu | cases hu
    · injection hj with hj; subst hj
      rcases i with _ | _ | _ | _ | _ | _ | _ | _ | _ | i <;> first | exact hu | cases hu
    · simp at hj)

theorem ex_end {W : World} {o1 o2 o3 o4 : Obj} {b : Nat} {u v u0 v0 : Value} (h0 : W.cell? ⟨b, 0, none⟩ = some u0) (h1 : W.cell? ⟨b, 1, none⟩ = some v0) :
    ((((((W.setCell ⟨b, 0, none⟩ u).setCell ⟨b, 1, none⟩ v).alloc o1).alloc o2).alloc o3).alloc o4).drew.cell? ⟨b, 0, none⟩ = some u ∧
    ((((((W.setCell ⟨b, 0, none⟩ u).setCell ⟨b, 1, none⟩ v).alloc o1).alloc o2).alloc o3).alloc o4).drew.cell? ⟨b, 1, none⟩ = some v ∧
    ((((((W.setCell ⟨b, 0, none⟩ u).setCell ⟨b, 1, none⟩ v).alloc o1).alloc o2).alloc o3).alloc o4).drew.heap[W.heap.size]? = some o1 ∧
    ((((((W.setCell ⟨b, 0, none⟩ u).setCell ⟨b, 1, none⟩ v).alloc o1).alloc o2).alloc o3).alloc o4).drew.heap[W.heap.size + 1]? = some o2 ∧
    ((((((W.setCell ⟨b, 0, none⟩ u).setCell ⟨b, 1, none⟩ v).alloc o1).alloc o2).alloc o3).alloc o4).drew.heap[W.heap.size + 1 + 1]? = some o3 ∧
    ((((((W.setCell ⟨b, 0, none⟩ u).setCell ⟨b, 1, none⟩ v).alloc o1).alloc o2).alloc o3).alloc o4).drew.heap[W.heap.size + 1 + 1 + 1]? = some o4 := by
  have hb := cell_lt h0
  have e1 : ((W.setCell ⟨b, 0, none⟩ u).setCell ⟨b, 1, none⟩ v).heap.size = W.heap.size := by rw [World.size_setCell, World.size_setCell]
  generalize hX : ((W.setCell ⟨b, 0, none⟩ u).setCell ⟨b, 1, none⟩ v) = X at *
  have c0 : X.cell? ⟨b, 0, none⟩ = some u := by subst hX; exact cell_other (World.cell?_setCell_same' _ _ _ (by rw [h0]; rfl)) (by simp)
  have c1 : X.cell? ⟨b, 1, none⟩ = some v := by subst hX; exact World.cell?_setCell_same' _ _ _ (by rw [cell_other h1 (by simp)]; rfl)
  clear hX
  have hB : Below X.heap.size X ((((X.alloc o1).alloc o2).alloc o3).alloc o4).drew := (by repeat (first | (with_reducible exact Below.refl _ _) | (with_reducible exact HB.out) | (with_reducible assumption) | (with_reducible apply below_alloc) | (with_reducible apply below_drew) | (with_reducible apply pw_below_drewN) | (with_reducible refine bstep' ?_ (by assumption)) | ((with_reducible refine Below.setCell ?_ ?_ _); rotate_left; (first | (dsimp only; omega) | (simp; done) | (simp; omega) | omega))))
  dsimp only at hb
  refine ⟨(hB.cell (p := ⟨b, 0, none⟩) (by dsimp only; omega)).trans c0, (hB.cell (p := ⟨b, 1, none⟩) (by dsimp only; omega)).trans c1, ?_, ?_, ?_, ?_⟩
  · rw [heap_drew, ← e1, heap_alloc_lt _ _ (by simp only [World.size_alloc]; omega), heap_alloc_lt _ _ (by simp only [World.size_alloc]; omega), heap_alloc_lt _ _ (by simp only [World.size_alloc]; omega)]; exact heap_alloc_new _ _
  · rw [heap_drew, ← e1, heap_alloc_lt _ _ (by simp only [World.size_alloc]; omega), heap_alloc_lt _ _ (by simp only [World.size_alloc]; omega)]
    have := heap_alloc_new (X.alloc o1) o2
    rwa [World.size_alloc] at this
  · rw [heap_drew, ← e1, heap_alloc_lt _ _ (by simp only [World.size_alloc]; omega)]
    have := heap_alloc_new ((X.alloc o1).alloc o2) o3
    rwa [World.size_alloc, World.size_alloc] at this
  · rw [heap_drew, ← e1]
    have := heap_alloc_new (((X.alloc o1).alloc o2).alloc o3) o4
    rwa [World.size_alloc, World.size_alloc, World.size_alloc] at this

set_option maxHeartbeats 6400000 in
set_option maxRecDepth 100000 in
theorem example_c (w : World) :
    Calls Try.prog 28 #[] w fun e w' => ∃ P Q, e = .returned (.agg #[.slice (some ⟨P, 0, none⟩) 2 2, .slice (some ⟨Q, 0, none⟩) 2 2]) ∧ kBx.C w' (some ⟨P, 0, none⟩) 2 exBoxes ∧ kFct.C w' (some ⟨Q, 0, none⟩) 2 [exDist, exEast] ∧ Below w.heap.size w w' := by
  go_enter Try.func28, Try.ntmps28
  go_wp2_with fail
  generalize hW : (((w.alloc _).alloc _).alloc _ : World) = W
  have f0 : W.cell? ⟨w.heap.size + 1, 0, none⟩ = some (.int .i64 4) := by subst hW; go_simp
  have f1 : W.cell? ⟨w.heap.size + 1, 1, none⟩ = some (.int .i64 1) := by subst hW; go_simp
  have f2 : W.cell? ⟨w.heap.size + 1, 2, none⟩ = some (.bool false) := by subst hW; go_simp
  have f3 : W.cell? ⟨w.heap.size + 1, 3, none⟩ = some (.int .i64 0) := by subst hW; go_simp
  have f4 : W.cell? ⟨w.heap.size + 1, 4, none⟩ = some (.int .i64 1) := by subst hW; go_simp
  have f5 : W.cell? ⟨w.heap.size + 1, 5, none⟩ = some (.int .i64 0) := by subst hW; go_simp
  have f6 : W.cell? ⟨w.heap.size + 1, 6, none⟩ = some (.int .i64 25) := by subst hW; go_simp
  have f7 : W.cell? ⟨w.heap.size + 1, 7, none⟩ = some (.int .i64 25) := by subst hW; go_simp
  have f8 : W.cell? ⟨w.heap.size + 1, 8, none⟩ = some (.int .i64 0) := by subst hW; go_simp
  have g0 : W.cell? ⟨w.heap.size + 1 + 1, 0, none⟩ = some (.int .i64 7) := by subst hW; go_simp
  have g1 : W.cell? ⟨w.heap.size + 1 + 1, 1, none⟩ = some (.int .i64 3) := by subst hW; go_simp
  have g2 : W.cell? ⟨w.heap.size + 1 + 1, 2, none⟩ = some (.bool false) := by subst hW; go_simp
  have g3 : W.cell? ⟨w.heap.size + 1 + 1, 3, none⟩ = some (.int .i64 0) := by subst hW; go_simp
  have g4 : W.cell? ⟨w.heap.size + 1 + 1, 4, none⟩ = some (.int .i64 1) := by subst hW; go_simp
  have g5 : W.cell? ⟨w.heap.size + 1 + 1, 5, none⟩ = some (.int .i64 0) := by subst hW; go_simp
  have g6 : W.cell? ⟨w.heap.size + 1 + 1, 6, none⟩ = some (.int .i64 0) := by subst hW; go_simp
  have g7 : W.cell? ⟨w.heap.size + 1 + 1, 7, none⟩ = some (.int .i64 0) := by subst hW; go_simp
  have g8 : W.cell? ⟨w.heap.size + 1 + 1, 8, none⟩ = some (.int .i64 0) := by subst hW; go_simp
  have r0 : W.cell? ⟨w.heap.size, 0, none⟩ = some (.slice none 0 0) := by subst hW; go_simp
  have r1 : W.cell? ⟨w.heap.size, 1, none⟩ = some (.slice none 0 0) := by subst hW; go_simp
  have hfr : ∀ o, W.frozen? ⟨w.heap.size, o, none⟩ = false := by intro o; subst hW; go_simp
  have HBW := Aside0.mk (show Below w.heap.size w W by subst hW; exact (by repeat (first | (with_reducible exact Below.refl _ _) | (with_reducible exact HB.out) | (with_reducible assumption) | (with_reducible apply below_alloc) | (with_reducible apply below_drew) | (with_reducible apply pw_below_drewN) | (with_reducible refine bstep' ?_ (by assumption)) | ((with_reducible refine Below.setCell ?_ ?_ _); rotate_left; (first | (dsimp only; omega) | (simp; done) | (simp; omega) | omega)))))
  have hz : w.heap.size < W.heap.size := by subst hW; simp; omega
  have hz1 : w.heap.size + 1 < W.heap.size := by subst hW; simp
  have hz2 : w.heap.size + 1 + 1 < W.heap.size := by subst hW; simp
  clear hW
  have ha1 : w.heap.size < W.heap.size + 1 := by omega
  have ha2 : w.heap.size < W.heap.size + 1 + 1 := by omega
  have ha3 : w.heap.size < W.heap.size + 1 + 1 + 1 := by omega
  have ha4 : w.heap.size < W.heap.size + 1 + 1 + 1 + 1 := by omega
  have hb1 : w.heap.size + 1 < W.heap.size + 1 := by omega
  have hb2 : w.heap.size + 1 < W.heap.size + 1 + 1 := by omega
  have hb3 : w.heap.size + 1 < W.heap.size + 1 + 1 + 1 := by omega
  have hb4 : w.heap.size + 1 < W.heap.size + 1 + 1 + 1 + 1 := by omega
  have hc1 : w.heap.size + 1 + 1 < W.heap.size + 1 := by omega
  have hc2 : w.heap.size + 1 + 1 < W.heap.size + 1 + 1 := by omega
  have hc3 : w.heap.size + 1 + 1 < W.heap.size + 1 + 1 + 1 := by omega
  have hc4 : w.heap.size + 1 + 1 < W.heap.size + 1 + 1 + 1 + 1 := by omega
  go_cut [] (fun W1 => ∃ P Q, W1.cell? ⟨w.heap.size, 0, none⟩ = some (.slice (some ⟨P, 0, none⟩) 2 2) ∧ W1.cell? ⟨w.heap.size, 1, none⟩ = some (.slice (some ⟨Q, 0, none⟩) 2 2) ∧ Aside0 (kBx.C W1 (some ⟨P, 0, none⟩) 2 exBoxes ∧ kFct.C W1 (some ⟨Q, 0, none⟩) 2 [exDist, exEast]) ∧ Aside0 (Below w.heap.size w W1))
  case first =>
    have hn1 : w.heap.size + 1 ≠ w.heap.size := by omega
    have hn2 : w.heap.size + 1 + 1 ≠ w.heap.size := by omega
    go_region_held3 (fun w' => (∀ b o, b < W.heap.size → (b ≠ w.heap.size) → w'.cell? ⟨b, o, none⟩ = W.cell? ⟨b, o, none⟩) ∧ W.heap.size ≤ w'.heap.size) (first | (repeat (first | (with_reducible assumption) | (with_reducible exact SB_refl _ _) | (with_reducible apply SB_drew) | (with_reducible refine SB_below ?_ (by assumption)) | ((with_reducible refine SB_set ?_ ?_ _); rotate_left; (focus (simp; done))) | ((with_reducible refine SB_new ?_ ?_ _); rotate_left; (first | (dsimp only; omega) | (simp; done) | (simp; omega) | omega)) | (with_reducible apply SB_alloc)))) ((first | (go_at_call 29; refine (square_c _ _ _ _ _).mono ?_; rintro e w7 ⟨rfl, rfl⟩)))
    all_goals (go_wp2_with fail)
    all_goals go_meet
    all_goals (case rel => (have hbx := HBW.out; exact ⟨_, _, (ex_end r0 r1).1, (ex_end r0 r1).2.1, ⟨ex_bx (by first | exact (ex_end r0 r1).2.2.2.2.1 | exact (ex_end r0 r1).2.2.2.2.2 | exact (ex_end r0 r1).2.2.2.1 | exact (ex_end r0 r1).2.2.1), ex_fct (by first | exact (ex_end r0 r1).2.2.2.2.1 | exact (ex_end r0 r1).2.2.2.2.2 | exact (ex_end r0 r1).2.2.2.1 | exact (ex_end r0 r1).2.2.1)⟩, ⟨(by repeat (first | (with_reducible exact Below.refl _ _) | (with_reducible exact HB.out) | (with_reducible assumption) | (with_reducible apply below_alloc) | (with_reducible apply below_drew) | (with_reducible apply pw_below_drewN) | (with_reducible refine bstep' ?_ (by assumption)) | ((with_reducible refine Below.setCell ?_ ?_ _); rotate_left; (first | (dsimp only; omega) | (simp; done) | (simp; omega) | omega))))⟩⟩))
  case rest =>
    obtain ⟨P, Q, m0, m1, HC, HB⟩ := hcut
    go_wp2_with fail
    exact bodyPost_ret (v := .agg #[.slice (some ⟨P, 0, none⟩) 2 2, .slice (some ⟨Q, 0, none⟩) 2 2]) (by simp [results, Try.results28, go_sem, *]) rfl ⟨P, Q, rfl, HC.out.1, HC.out.2, HB.out⟩
end Go.Proofs.Ytkkimlicabbooaa

/-
  With of the law's reference.
-/
namespace Go.Proofs.Ytkkimlicabbooaa
open Go.RowKit Go.Proofs.YtkkimlicabbooaaW.PrintWords Bs
attribute [local go_sem] Later.cell? Later.frozen?
set_option linter.unusedVariables false
set_option linter.unusedSimpArgs false

set_option maxHeartbeats 6400000 in
set_option maxRecDepth 100000 in
theorem refWith_c (A1 A2 : Option Addr) (n nf c1 c2 : Nat) (fs : List Fct) (f : Fct) (w : World) (h2 : kFct.C w A2 nf fs) (hn : nf ≤ 1000) :
    Calls Try.prog 17 #[.agg #[.slice A1 n c1, .slice A2 nf c2], .agg #[.int .i64 f.id, .int .i64 f.kind, .bool f.no, .int .i64 f.a, .int .i64 f.b, .int .i64 f.c, .int .i64 f.span.lo, .int .i64 f.span.hi, .int .i64 f.quarter]] w fun e w' => ∃ v, e = .returned (.agg #[.slice A1 n c1, v]) ∧ kFct.R 33 w' w.heap.size (fun _ => True) v (fs ++ [f]) ∧ Below w.heap.size w w' := by
  have H2 := Aside0.mk h2
  have HL := Aside0.mk h2.1
  clear h2
  go_enter Try.func17, Try.ntmps17
  go_wp2_with fail
  generalize hW : (((w.alloc _).alloc _).alloc _ : World) = W
  have e0 : W.cell? ⟨w.heap.size, 0, none⟩ = some (.slice A1 n c1) := by subst hW; go_simp
  have e1 : W.cell? ⟨w.heap.size, 1, none⟩ = some (.slice A2 nf c2) := by subst hW; go_simp
  have f0 : W.cell? ⟨w.heap.size + 1, 0, none⟩ = some (.int .i64 f.id) := by subst hW; go_simp
  have f1 : W.cell? ⟨w.heap.size + 1, 1, none⟩ = some (.int .i64 f.kind) := by subst hW; go_simp
  have f2 : W.cell? ⟨w.heap.size + 1, 2, none⟩ = some (.bool f.no) := by subst hW; go_simp
  have f3 : W.cell? ⟨w.heap.size + 1, 3, none⟩ = some (.int .i64 f.a) := by subst hW; go_simp
  have f4 : W.cell? ⟨w.heap.size + 1, 4, none⟩ = some (.int .i64 f.b) := by subst hW; go_simp
  have f5 : W.cell? ⟨w.heap.size + 1, 5, none⟩ = some (.int .i64 f.c) := by subst hW; go_simp
  have f6 : W.cell? ⟨w.heap.size + 1, 6, none⟩ = some (.int .i64 f.span.lo) := by subst hW; go_simp
  have f7 : W.cell? ⟨w.heap.size + 1, 7, none⟩ = some (.int .i64 f.span.hi) := by subst hW; go_simp
  have f8 : W.cell? ⟨w.heap.size + 1, 8, none⟩ = some (.int .i64 f.quarter) := by subst hW; go_simp
  have r0 : W.cell? ⟨w.heap.size + 1 + 1, 0, none⟩ = some (.slice none 0 0) := by subst hW; go_simp
  have r1 : W.cell? ⟨w.heap.size + 1 + 1, 1, none⟩ = some (.slice none 0 0) := by subst hW; go_simp
  have hfr : ∀ o, W.frozen? ⟨w.heap.size + 1 + 1, o, none⟩ = false := by intro o; subst hW; go_simp
  have hT2 : Ty W (w.heap.size + 1 + 1) 25 2 := by subst hW; exact (by repeat (first | (with_reducible assumption) | (exact Ty.new3 (by first | (simp; done) | (simp; omega) | omega)) | (with_reducible refine Ty.old ?_) | (with_reducible refine Ty.set ?_) | (with_reducible refine Ty.drew ?_) | (with_reducible refine Ty.below ?_ (by assumption))))
  have HBW := Aside0.mk (show Below w.heap.size w W by subst hW; exact (by repeat (first | (with_reducible exact Below.refl _ _) | (with_reducible exact HB.out) | (with_reducible assumption) | (with_reducible apply below_alloc) | (with_reducible apply below_drew) | (with_reducible apply pw_below_drewN) | (with_reducible refine bstep' ?_ (by assumption)) | ((with_reducible refine Below.setCell ?_ ?_ _); rotate_left; (first | (dsimp only; omega) | (simp; done) | (simp; omega) | omega)))))
  have hz : w.heap.size + 1 + 1 < W.heap.size := by subst hW; simp
  have hz0 : w.heap.size < W.heap.size := by omega
  have hz1 : w.heap.size + 1 < W.heap.size := by omega
  clear hW
  have ha1 : w.heap.size < W.heap.size + 1 := by omega
  have ha2 : w.heap.size < W.heap.size + 1 + 1 := by omega
  have hb1 : w.heap.size + 1 < W.heap.size + 1 := by omega
  have hb2 : w.heap.size + 1 < W.heap.size + 1 + 1 := by omega
  have hc1 : w.heap.size + 1 + 1 < W.heap.size + 1 := by omega
  have hc2 : w.heap.size + 1 + 1 < W.heap.size + 1 + 1 := by omega
  have HV2 := Aside0.mk (Kd.C_below H2.out HBW.out)
  have HT := Aside0.mk hT2
  have hn1 : w.heap.size + 1 ≠ w.heap.size + 1 + 1 := by omega
  have hn2 : w.heap.size ≠ w.heap.size + 1 + 1 := by omega
  clear hT2
  go_cut [] (fun W1 => ∃ v, W1.cell? ⟨w.heap.size + 1 + 1, 0, none⟩ = some (.slice A1 n c1) ∧ W1.cell? ⟨w.heap.size + 1 + 1, 1, none⟩ = some v ∧ Aside0 (kFct.R 33 W1 w.heap.size (fun _ => True) v (fs ++ [f])) ∧ Aside0 (Below w.heap.size w W1))
  case first =>
    go_region_held3 (fun w' => (∀ b o, b < W.heap.size → (b ≠ w.heap.size + 1 + 1) → w'.cell? ⟨b, o, none⟩ = W.cell? ⟨b, o, none⟩) ∧ W.heap.size ≤ w'.heap.size) (first | (repeat (first | (with_reducible assumption) | (with_reducible exact SB_refl _ _) | (with_reducible apply SB_drew) | (with_reducible refine SB_below ?_ (by assumption)) | ((with_reducible refine SB_set ?_ ?_ _); rotate_left; (focus (simp; done))) | ((with_reducible refine SB_new ?_ ?_ _); rotate_left; (first | (dsimp only; omega) | (simp; done) | (simp; omega) | omega)) | (with_reducible apply SB_alloc)))) ((first | (refine Kd.R_append_rows_step kFct (Rr := kFct.K _) (w0 := W) W.heap.size rfl _ _ 23 33 (.agg #[.int .i64 0, .int .i64 0, .bool false, .int .i64 0, .int .i64 0, .int .i64 0, .int .i64 0, .int .i64 0, .int .i64 0]) 72 rfl Try.underlying23 infoFct rfl (by decide) (by omega) _ [] _ _ _ _ (fun _ => True) (fun _ => False) rfl rfl ?aR (rows_of HV2.out ?aW) (fun _ _ h => h) (fun _ h => h.elim) (fun _ _ => trivial) ?aB ?aS ?aL ?_; (case aR => first | exact R_empty kFct _ _ | exact Kd.R_lower (R_empty kFct _ _) (by simp) | exact Kd.R_below (R_empty kFct _ _) (by repeat (first | (with_reducible exact Below.refl _ _) | (with_reducible exact HB.out) | (with_reducible assumption) | (with_reducible apply below_alloc) | (with_reducible apply below_drew) | (with_reducible apply pw_below_drewN) | (with_reducible refine bstep' ?_ (by assumption)) | ((with_reducible refine Below.setCell ?_ ?_ _); rotate_left; (first | (dsimp only; omega) | (simp; done) | (simp; omega) | omega)))) | (have h5 := R_empty kFct 33 (W.alloc (.cells #[.int .i64 f.id, .int .i64 f.kind, .bool f.no, .int .i64 f.a, .int .i64 f.b, .int .i64 f.c, .int .i64 f.span.lo, .int .i64 f.span.hi, .int .i64 f.quarter] 33)); rw [World.size_alloc] at h5; exact Kd.R_lower (Kd.R_below h5 (by repeat (first | (with_reducible exact Below.refl _ _) | (with_reducible exact HB.out) | (with_reducible assumption) | (with_reducible apply below_alloc) | (with_reducible apply below_drew) | (with_reducible apply pw_below_drewN) | (with_reducible refine bstep' ?_ (by assumption)) | ((with_reducible refine Below.setCell ?_ ?_ _); rotate_left; (first | (dsimp only; omega) | (simp; done) | (simp; omega) | omega))))) (by omega))); (case aW => exact (by repeat (first | (with_reducible exact Below.refl _ _) | (with_reducible exact HB.out) | (with_reducible assumption) | (with_reducible apply below_alloc) | (with_reducible apply below_drew) | (with_reducible apply pw_below_drewN) | (with_reducible refine bstep' ?_ (by assumption)) | ((with_reducible refine Below.setCell ?_ ?_ _); rotate_left; (first | (dsimp only; omega) | (simp; done) | (simp; omega) | omega))))); (case aB => exact (by repeat (first | (with_reducible exact Below.refl _ _) | (with_reducible exact HB.out) | (with_reducible assumption) | (with_reducible apply below_alloc) | (with_reducible apply below_drew) | (with_reducible apply pw_below_drewN) | (with_reducible refine bstep' ?_ (by assumption)) | ((with_reducible refine Below.setCell ?_ ?_ _); rotate_left; (first | (dsimp only; omega) | (simp; done) | (simp; omega) | omega))))); (case aS => first | exact Nat.le_refl _ | (simp; done) | (simp; omega)); (case aL => first | omega | (simp; done) | (simp; omega)); intro v8 w8 hv8 hb8 hg8 _) | (refine app_step kFct (w0 := W) W.heap.size rfl _ _ 23 33 (.agg #[.int .i64 0, .int .i64 0, .bool false, .int .i64 0, .int .i64 0, .int .i64 0, .int .i64 0, .int .i64 0, .int .i64 0]) 72 rfl Try.underlying23 infoFct rfl (by decide) (by omega) v8 ([] ++ fs) f [.int .i64 f.id, .int .i64 f.kind, .bool f.no, .int .i64 f.a, .int .i64 f.b, .int .i64 f.c, .int .i64 f.span.lo, .int .i64 f.span.hi, .int .i64 f.quarter] (fun _ => True) (fun _ => False) rfl _ rfl ?aQ rfl (fun _ h => h.elim) (fun _ _ => trivial) (Kd.R_below hv8 (by repeat (first | (with_reducible exact Below.refl _ _) | (with_reducible exact HB.out) | (with_reducible assumption) | (with_reducible apply below_alloc) | (with_reducible apply below_drew) | (with_reducible apply pw_below_drewN) | (with_reducible refine bstep' ?_ (by assumption)) | ((with_reducible refine Below.setCell ?_ ?_ _); rotate_left; (first | (dsimp only; omega) | (simp; done) | (simp; omega) | omega))))) (by repeat (first | (with_reducible exact Below.refl _ _) | (with_reducible exact HB.out) | (with_reducible assumption) | (with_reducible apply below_alloc) | (with_reducible apply below_drew) | (with_reducible apply pw_below_drewN) | (with_reducible refine bstep' ?_ (by assumption)) | ((with_reducible refine Below.setCell ?_ ?_ _); rotate_left; (first | (dsimp only; omega) | (simp; done) | (simp; omega) | omega)))) ?aS ?aL ?_; (case aQ => intro j u hu; rcases j with _ | _ | _ | _ | _ | _ | _ | _ | _ | j <;> simp at hu <;> subst hu <;> first | (go_simp; done) | (refine cell_grown hg8 (by go_simp) ?_; show some _ ≠ (Value.slice (some ⟨_, 0, none⟩) 0 0).ownBlock; simp [Value.ownBlock])); (case aS => first | exact Nat.le_refl _ | exact hb8.size | (simp; done) | (simp; omega) | (have := hb8.size; simp; omega)); (case aL => have := HL.out; first | omega | (simp; done) | (simp; omega)); intro v9 w9 hv9 hb9 hg9; have m2 := (hb9.cell (p := ⟨w.heap.size + 1 + 1, 0, none⟩) hz).trans r0; have m3 := (hb9.cell (p := ⟨w.heap.size + 1 + 1, 1, none⟩) hz).trans r1; have mU := Aside0.mk (HT.out.below hb9); have mf := frozen_ty (HT.out.below hb9); obtain ⟨A12, c12, e12⟩ := Kd.R_slice hv9; have HV1 := Aside0.mk hv9; clear hv9; obtain ⟨LL, hLL⟩ : ∃ x, x = ([] ++ fs ++ [f]).length := ⟨_, rfl⟩; rw [← hLL] at e12; clear hLL; subst e12)))
    all_goals (go_wp2_with fail)
    all_goals go_meet
    all_goals (case rel => (have hbx := HBW.out.trans (hb9.mono HBW.out.size); exact ⟨_, by go_simp, by go_simp, ⟨R_setTy (R_setTy (Kd.R_lower HV1.out HBW.out.size) mU.out withR_types 0 _) mU.out.set withR_types 1 _⟩, ⟨(by repeat (first | (with_reducible exact Below.refl _ _) | (with_reducible exact HB.out) | (with_reducible assumption) | (with_reducible apply below_alloc) | (with_reducible apply below_drew) | (with_reducible apply pw_below_drewN) | (with_reducible refine bstep' ?_ (by assumption)) | ((with_reducible refine Below.setCell ?_ ?_ _); rotate_left; (first | (dsimp only; omega) | (simp; done) | (simp; omega) | omega))))⟩⟩))
  case rest =>
    obtain ⟨v, m0, m1, HV, HB⟩ := hcut
    obtain ⟨A12, c12, e12⟩ := Kd.R_slice HV.out
    obtain ⟨LL, hLL⟩ : ∃ x, x = (fs ++ [f]).length := ⟨_, rfl⟩
    rw [← hLL] at e12
    subst e12
    clear hLL
    go_wp2_with fail
    exact bodyPost_ret (v := .agg #[.slice A1 n c1, .slice A12 LL c12]) (by simp [results, Try.results17, go_sem, *]) rfl ⟨_, rfl, HV.out, HB.out⟩

end Go.Proofs.Ytkkimlicabbooaa

/-
  Narrow in the words of the plain law.
-/
namespace Go.Proofs.Ytkkimlicabbooaa
open Go.RowKit Go.Proofs.YtkkimlicabbooaaW.PrintWords Bs
set_option linter.unusedVariables false
set_option linter.unusedSimpArgs false

theorem narrowAll_c (A1 A2 : Option Addr) (n n2 c1 c2 : Nat) (bs : List Bx) (fs : List Fct) (w : World) (h1 : kBx.C w A1 n bs) (h2 : kFct.C w A2 n2 fs) :
    Calls Try.prog 14 #[.agg #[.slice A1 n c1, .slice A2 n2 c2]] w fun e w' => ∃ v, e = .returned (.tuple #[v, .int .i64 (narrowE ⟨bs, fs⟩).2]) ∧ kBx.R 42 w' w.heap.size (fun _ => True) v (narrowE ⟨bs, fs⟩).1 ∧ Below w.heap.size w w' := by
  refine (narrowEx_c A1 A2 n n2 c1 c2 bs fs w h1 h2).mono ?_
  intro e w' h
  rcases h with ⟨hc, rfl, hb⟩ | ⟨hc, l, v, rfl, hv, hN, _, hb⟩ | ⟨hc, rfl, hE, hb⟩
  · have hx : narrowE ⟨bs, fs⟩ = ([], checkP ⟨bs, fs⟩) := by unfold narrowE; rw [if_neg hc]
    exact ⟨_, by rw [hx], by rw [hx]; exact Kd.R_nil _ _ _ _ _, hb⟩
  · obtain ⟨_, _, m3, m4⟩ := check_zero hc
    have hx : narrowE ⟨bs, fs⟩ = (l, 0) := by unfold narrowE; rw [if_pos hc]; simp only [narrowP_some (ne_of_small m3) (fm_of m4) hN]
    exact ⟨_, by rw [hx], by rw [hx]; exact hv, hb⟩
  · obtain ⟨_, _, m3, m4⟩ := check_zero hc
    have hx : narrowE ⟨bs, fs⟩ = ([], 9) := by unfold narrowE; rw [if_pos hc]; simp only [narrowP_none (ne_of_small m3) (fm_of m4) hE]
    exact ⟨_, by rw [hx], by rw [hx]; exact Kd.R_nil _ _ _ _ _, hb⟩
end Go.Proofs.Ytkkimlicabbooaa

/-
  head of the law: the chapter's examples hold.
-/
namespace Go.Proofs.Ytkkimlicabbooaa
open Go.RowKit Go.Proofs.YtkkimlicabbooaaW.PrintWords Bs
attribute [local go_sem] Later.cell? Later.frozen?
set_option linter.unusedVariables false
set_option linter.unusedSimpArgs false

set_option maxHeartbeats 3200000 in
set_option maxRecDepth 100000 in
theorem head_c (w : World) :
    Calls Try.prog 9 #[] w fun e w' => e = .returned (.bool true) ∧ Below w.heap.size w w' := by
  go_enter Try.func9, Try.ntmps9
  go_wp2_with fail
  refine (example_c _).mono ?_
  rintro e w1 ⟨P1, Q1, rfl, hp1, hq1, hb1⟩
  go_wp2_with fail
  refine (narrowAll_c _ _ 2 2 _ _ exBoxes [exDist, exEast] _ hp1 hq1).mono ?_
  rw [show narrowE ⟨exBoxes, [exDist, exEast]⟩ = ([⟨⟨0, 0⟩, ⟨0, 0⟩⟩, ⟨⟨3, 5⟩, ⟨-4, 4⟩⟩], 0) from ex_narrowE]
  rintro e w2 ⟨v2, rfl, hv2, hb2⟩
  have HB2 := Aside0.mk (bstep' hb1 hb2)
  obtain ⟨A2, c2, rfl⟩ := Kd.R_slice hv2
  have HC2 := Aside0.mk (row_C hv2).2
  clear hv2 hb2 hb1 hp1 hq1
  go_wp2_with fail
  refine (example_c _).mono ?_
  rintro e w3 ⟨P3, Q3, rfl, hp3, hq3, hb3⟩
  go_wp2_with fail
  refine (count_c _ _ 2 2 _ _ exBoxes [exDist, exEast] _ hp3 hq3).mono ?_
  rw [show countP ⟨exBoxes, [exDist, exEast]⟩ = (3, 0) from ex_count]
  rintro e w4 ⟨rfl, hb4⟩
  have HB4 := Aside0.mk (bstep' hb3 hb4)
  clear hb3 hb4 hp3 hq3
  go_wp2_with fail
  refine (example_c _).mono ?_
  rintro e w5 ⟨P5, Q5, rfl, hp5, hq5, hb5⟩
  go_wp2_with fail
  refine (hullAll_c _ _ 2 2 _ _ exBoxes [exDist, exEast] _ hp5 hq5).mono ?_
  rw [show hullP ⟨exBoxes, [exDist, exEast]⟩ = ([⟨⟨0, 0⟩, ⟨0, 0⟩⟩, ⟨⟨4, 5⟩, ⟨-3, 3⟩⟩], 0) from ex_hull]
  rintro e w6 ⟨v6, rfl, hv6, hb6⟩
  have HB6 := Aside0.mk (bstep' hb5 hb6)
  obtain ⟨A6, c6, rfl⟩ := Kd.R_slice hv6
  have HC6 := Aside0.mk (row_C hv6).2
  clear hv6 hb6 hb5 hp5 hq5
  go_wp2_with fail
  refine (example_c _).mono ?_
  rintro e w7 ⟨P7, Q7, rfl, hp7, hq7, hb7⟩
  go_wp2_with fail
  refine (decide_c _ _ 2 2 _ _ exBoxes [exDist, exEast] exNorth _ hp7 hq7).mono ?_
  rw [show decideP ⟨exBoxes, [exDist, exEast]⟩ exNorth = (3, 0) from ex_north]
  rintro e w8 ⟨rfl, hb8⟩
  have HB8 := Aside0.mk (bstep' hb7 hb8)
  clear hb7 hb8 hp7 hq7
  go_wp2_with fail
  refine (example_c _).mono ?_
  rintro e w9 ⟨P9, Q9, rfl, hp9, hq9, hb9⟩
  go_wp2_with fail
  refine (decide_c _ _ 2 2 _ _ exBoxes [exDist, exEast] exWide _ hp9 hq9).mono ?_
  rw [show decideP ⟨exBoxes, [exDist, exEast]⟩ exWide = (2, 0) from ex_wide]
  rintro e w10 ⟨rfl, hb10⟩
  have HB10 := Aside0.mk (bstep' hb9 hb10)
  clear hb9 hb10 hp9 hq9
  go_wp2_with fail
  refine (example_c _).mono ?_
  rintro e w11 ⟨P11, Q11, rfl, hp11, hq11, hb11⟩
  go_wp2_with fail
  refine (refWith_c _ _ 2 2 _ _ [exDist, exEast] exTwo _ hq11 (by omega)).mono ?_
  rintro e w12 ⟨v12, rfl, hv12, hb12⟩
  obtain ⟨A12, c12, rfl⟩ := Kd.R_slice hv12
  go_wp2_with fail
  refine (core_c _ _ 2 3 _ _ exBoxes [exDist, exEast, exTwo] _ (Kd.C_below hp11 hb12) (row_C hv12).2 (by omega)).mono ?_
  rw [show coreP ⟨exBoxes, [exDist, exEast, exTwo]⟩ = ([4, 9], 0) from ex_core]
  rintro e w13 ⟨v13, rfl, hv13, hb13⟩
  have HB13 := Aside0.mk (bstep' (bstep' hb11 hb12) hb13)
  obtain ⟨A13, c13, rfl⟩ := Kd.R_slice hv13
  have HC13 := Aside0.mk (row_C hv13).2
  clear hv13 hb13 hb11 hb12 hv12 hp11 hq11
  go_wp2_with fail
  have K6 := bstep' (bstep' (bstep' HB8.out HB10.out) HB13.out) (Below.refl _ _)
  have K2 := bstep' (bstep' HB4.out HB6.out) K6
  obtain ⟨b2, o2, rfl, l2, x0, x1, x2, x3⟩ := at_Bx (Kd.C_below HC2.out K2) 1 (by omega) (by decide)
  obtain ⟨b6, o6, rfl, l6, y0, y1, y2, y3⟩ := at_Bx (Kd.C_below HC6.out K6) 1 (by omega) (by decide)
  obtain ⟨b13, o13, he, l13, z0⟩ := at_Int HC13.out 0 (by omega) (by decide)
  obtain ⟨b13', o13', rfl, l13', z1⟩ := at_Int HC13.out 1 (by omega) (by decide)
  injection he with he
  injection he with h1 h2 _
  subst h1 h2
  have x0 : w13.cell? ⟨b2, o2 + 4, none⟩ = some (.int .i64 3) := x0
  have x1 : w13.cell? ⟨b2, o2 + 4 + 1, none⟩ = some (.int .i64 5) := x1
  have x2 : w13.cell? ⟨b2, o2 + 4 + 2, none⟩ = some (.int .i64 (-4)) := x2
  have x3 : w13.cell? ⟨b2, o2 + 4 + 3, none⟩ = some (.int .i64 4) := x3
  have y0 : w13.cell? ⟨b6, o6 + 4, none⟩ = some (.int .i64 4) := y0
  have y1 : w13.cell? ⟨b6, o6 + 4 + 1, none⟩ = some (.int .i64 5) := y1
  have y2 : w13.cell? ⟨b6, o6 + 4 + 2, none⟩ = some (.int .i64 (-3)) := y2
  have y3 : w13.cell? ⟨b6, o6 + 4 + 3, none⟩ = some (.int .i64 3) := y3
  have z0 : w13.cell? ⟨b13', o13', none⟩ = some (.int .i64 4) := z0
  have z1 : w13.cell? ⟨b13', o13' + 1, none⟩ = some (.int .i64 9) := z1
  have HW := Aside0.mk (bstep' HB2.out K2)
  clear K2 K6 HC2 HC6 HC13
  (refine wp_region_quiet (C := fun w' => ∃ t : Later _, w' = t.w) (by kernel_rfl) (by kernel_rfl) (IsLater.drew _) ?_; (repeat (first | go_big_quiet_step ((go_at_call 29; exact later_of ((square_c _ _ _ _ _).mono (fun e w' h => ⟨h.1, by rw [h.2]; exact (by repeat (first | (with_reducible exact Below.refl _ _) | (with_reducible exact HB.out) | (with_reducible assumption) | (with_reducible apply below_alloc) | (with_reducible apply below_drew) | (with_reducible apply pw_below_drewN) | (with_reducible refine bstep' ?_ (by assumption)) | ((with_reducible refine Below.setCell ?_ ?_ _); rotate_left; (first | (dsimp only; omega) | (simp; done) | (simp; omega) | omega))))⟩)))) | quiet_step ((go_at_call 29; exact later_of ((square_c _ _ _ _ _).mono (fun e w' h => ⟨h.1, by rw [h.2]; exact (by repeat (first | (with_reducible exact Below.refl _ _) | (with_reducible exact HB.out) | (with_reducible assumption) | (with_reducible apply below_alloc) | (with_reducible apply below_drew) | (with_reducible apply pw_below_drewN) | (with_reducible refine bstep' ?_ (by assumption)) | ((with_reducible refine Below.setCell ?_ ?_ _); rotate_left; (first | (dsimp only; omega) | (simp; done) | (simp; omega) | omega))))⟩)))))); refine wpQuiet_nil ?_; rintro _ ⟨tq, rfl⟩)
  go_wp2_with fail
  go_ret
  exact ⟨rfl, bstep' HW.out tq.h⟩
end Go.Proofs.Ytkkimlicabbooaa

/-
  The reference's span, Valid.
-/
namespace Go.Proofs.Ytkkimlicabbooaa
open Go.RowKit Go.Proofs.YtkkimlicabbooaaW.PrintWords Bs
attribute [local go_sem] Later.cell? Later.frozen?
set_option linter.unusedVariables false
set_option linter.unusedSimpArgs false

set_option maxHeartbeats 400000 in
theorem refSpan_c (a b lo hi : Int) (w : World) :
    Calls Try.prog 56 #[.agg #[.int .i64 a, .int .i64 b], .int .i64 lo, .int .i64 hi] w fun e w' => e = .returned (.bool (spanB a b lo hi)) ∧ Below w.heap.size w w' := by
  unfold spanB
  by_cases h : lo ≤ a
  · by_cases h2 : a ≤ b
    · go_enter Try.func56, Try.ntmps56
      go_wp2_with fail
      go_ret
      exact ⟨by simp [h, h2], (Below.refl _ _).alloc (Nat.le_refl _) _⟩
    · go_enter Try.func56, Try.ntmps56
      go_wp2_with fail
      go_ret
      exact ⟨by simp; omega, (Below.refl _ _).alloc (Nat.le_refl _) _⟩
  · go_enter Try.func56, Try.ntmps56
    go_wp2_with fail
    go_ret
    exact ⟨by simp; omega, (Below.refl _ _).alloc (Nat.le_refl _) _⟩

set_option maxHeartbeats 400000 in
theorem refValid_c (b : Bx) (w : World) :
    Calls Try.prog 33 #[.agg #[.int .i64 b.x.lo, .int .i64 b.x.hi, .int .i64 b.y.lo, .int .i64 b.y.hi]] w fun e w' => e = .returned (.bool (validB b)) ∧ Below w.heap.size w w' := by
  unfold validB
  go_enter Try.func33, Try.ntmps33
  go_wp2_with (go_at_call 56; refine (refSpan_c _ _ _ _ _).mono ?_; rintro e w1 ⟨rfl, hb1⟩; obtain ⟨hc1, hf1, hz1⟩ := bcell hb1; try simp only [World.size_alloc, World.size_setCell] at hz1)
  all_goals (go_ret; exact ⟨by simp [*], (by repeat (first | (with_reducible exact Below.refl _ _) | (with_reducible exact HB.out) | (with_reducible apply below_alloc) | (with_reducible apply below_drew) | (with_reducible apply pw_below_drewN) | (with_reducible refine bstep' ?_ (by assumption)) | ((with_reducible refine Below.setCell ?_ ?_ _); rotate_left; (first | (dsimp only; omega) | (simp; done) | (simp; omega) | omega))))⟩)
end Go.Proofs.Ytkkimlicabbooaa

/-
  formed, in words.
-/
namespace Go.Proofs.Ytkkimlicabbooaa
open Go.RowKit Go.Proofs.YtkkimlicabbooaaW.PrintWords Bs
set_option linter.unusedVariables false
set_option linter.unusedSimpArgs false

theorem formedB_iff (f : Fct) (n : Int) : formedB f n = true ↔ (0 ≤ f.id ∧ f.id ≤ 1099511627776) ∧ (0 ≤ f.a ∧ f.a ≤ n - 1) ∧ (0 ≤ f.b ∧ f.b ≤ n - 1) ∧ ¬ f.a = f.b ∧ (-17592186044416 ≤ f.span.lo ∧ f.span.lo ≤ f.span.hi ∧ f.span.hi ≤ 17592186044416) ∧
    ((f.kind = 2 ∧ (0 ≤ f.c ∧ f.c ≤ n - 1) ∧ ¬ f.c = f.a ∧ ¬ f.c = f.b ∧ f.quarter = 0) ∨ (¬ f.kind = 2 ∧ f.c = 0 ∧ (((f.kind = 1 ∨ f.kind = 5 ∨ f.kind = 6) ∧ f.quarter = 0) ∨ (f.kind = 4 ∧ f.quarter = 0 ∧ f.span.lo = 0) ∨ (f.kind = 3 ∧ (0 ≤ f.quarter ∧ f.quarter ≤ 3) ∧ f.span.lo = 0 ∧ f.span.hi = 0)))) := by
  unfold formedB withinB spanB
  simp only [Bool.and_eq_true, Bool.not_eq_true', decide_eq_true_eq, beq_iff_eq, beq_eq_false_iff_ne, ne_eq]
  by_cases k2 : f.kind = 2
  · rw [if_pos k2]
    simp only [Bool.and_eq_true, Bool.not_eq_true', decide_eq_true_eq, beq_iff_eq, beq_eq_false_iff_ne, ne_eq]
    omega
  · rw [if_neg k2]
    by_cases k1 : f.kind = 1 ∨ f.kind = 5 ∨ f.kind = 6
    · rw [if_pos k1]
      simp only [Bool.and_eq_true, Bool.not_eq_true', decide_eq_true_eq, beq_iff_eq, beq_eq_false_iff_ne, ne_eq]
      omega
    · rw [if_neg k1]
      by_cases k4 : f.kind = 4
      · rw [if_pos k4]
        simp only [Bool.and_eq_true, Bool.not_eq_true', decide_eq_true_eq, beq_iff_eq, beq_eq_false_iff_ne, ne_eq]
        omega
      · rw [if_neg k4]
        by_cases k3 : f.kind = 3
        · rw [if_pos k3]
          simp only [Bool.and_eq_true, Bool.not_eq_true', decide_eq_true_eq, beq_iff_eq, beq_eq_false_iff_ne, ne_eq]
          omega
        · rw [if_neg k3]
          simp only [Bool.and_eq_true, Bool.not_eq_true', decide_eq_true_eq, beq_iff_eq, beq_eq_false_iff_ne, ne_eq, Bool.false_eq_true, and_false, false_iff]
          omega

end Go.Proofs.Ytkkimlicabbooaa

/-
  The reference's Formed.
-/
namespace Go.Proofs.Ytkkimlicabbooaa
open Go.RowKit Go.Proofs.YtkkimlicabbooaaW.PrintWords Bs
set_option linter.unusedVariables false
set_option linter.unusedSimpArgs false

set_option maxHeartbeats 3200000 in
set_option maxRecDepth 100000 in
theorem refFormed_c (f : Fct) (n : Int) (w : World) (hn : 0 ≤ n) (hn2 : n ≤ 9223372036854775807) :
    Calls Try.prog 34 #[.agg #[.int .i64 f.id, .int .i64 f.kind, .bool f.no, .int .i64 f.a, .int .i64 f.b, .int .i64 f.c, .int .i64 f.span.lo, .int .i64 f.span.hi, .int .i64 f.quarter], .int .i64 n] w fun e w' => e = .returned (.bool (formedB f n)) ∧ Below w.heap.size w w' := by
  go_enter Try.func34, Try.ntmps34
  go_wp2_with (go_at_call 56; refine (refSpan_c _ _ _ _ _).mono ?_; rintro e w1 ⟨rfl, hb1⟩; obtain ⟨hc1, hf1, hz1⟩ := bcell hb1; try simp only [World.size_alloc, World.size_setCell] at hz1)
  all_goals (go_ret)
  all_goals refine ⟨?_, (by repeat (first | (with_reducible exact Below.refl _ _) | (with_reducible exact HB.out) | (with_reducible apply below_alloc) | (with_reducible apply below_drew) | (with_reducible apply pw_below_drewN) | (with_reducible refine bstep' ?_ (by assumption)) | ((with_reducible refine Below.setCell ?_ ?_ _); rotate_left; (first | (dsimp only; omega) | (simp; done) | (simp; omega) | omega))))⟩
  all_goals refine congrArg (fun b => Ending.returned (.bool b)) (Bool.eq_iff_iff.2 ?_)
  all_goals rw [formedB_iff]
  all_goals (try simp only [bne_eq_false_iff_eq] at *)
  all_goals (try simp only [spanB, Bool.and_eq_true, Bool.or_eq_true, Bool.not_eq_true', decide_eq_true_eq, decide_eq_false_iff_not, beq_iff_eq, beq_eq_false_iff_ne, Bool.false_eq_true, bne_iff_ne, ne_eq] at *)
  all_goals (first | omega | (constructor <;> intro hh <;> first | omega | exact hh.elim | (exfalso; omega)) | trace_state)
end Go.Proofs.Ytkkimlicabbooaa

/-
  The reference's Check.
-/
namespace Go.Proofs.Ytkkimlicabbooaa
open Go.RowKit Go.Proofs.YtkkimlicabbooaaW.PrintWords Bs
attribute [local go_sem] Later.cell? Later.frozen?
set_option linter.unusedVariables false
set_option linter.unusedSimpArgs false

set_option maxHeartbeats 3200000 in
set_option maxRecDepth 100000 in
theorem refCheck_c (A1 A2 : Option Addr) (n1 n2 c1 c2 : Nat) (bs : List Bx) (fs : List Fct) (w : World) (h1 : kBx.C w A1 n1 bs) (h2 : kFct.C w A2 n2 fs) :
    Calls Try.prog 12 #[.agg #[.slice A1 n1 c1, .slice A2 n2 c2]] w fun e w' => e = .returned (.int .i64 (checkP ⟨bs, fs⟩)) ∧ Below w.heap.size w w' := by
  have H1 := Aside0.mk h1
  have H2 := Aside0.mk h2
  obtain ⟨rfl, hn1, _⟩ := h1
  obtain ⟨rfl, hn2, _⟩ := h2
  by_cases hbig : 12 < bs.length ∨ 60 < fs.length
  · have HC := Aside0.mk (check_big (p := ⟨bs, fs⟩) hbig)
    by_cases h12 : (12 : Int) < (bs.length : Int)
    · clear hbig
      go_enter Try.func12, Try.ntmps12
      go_wp2_with fail
      go_ret
      exact ⟨by rw [HC.out]; rfl, (by repeat (first | (with_reducible exact Below.refl _ _) | (with_reducible exact HB.out) | (with_reducible apply below_alloc) | (with_reducible apply below_drew) | (with_reducible apply pw_below_drewN) | (with_reducible refine bstep' ?_ (by assumption)) | ((with_reducible refine Below.setCell ?_ ?_ _); rotate_left; (first | (dsimp only; omega) | (simp; done) | (simp; omega) | omega))))⟩
    · have h60 : (60 : Int) < (fs.length : Int) := by omega
      clear hbig
      go_enter Try.func12, Try.ntmps12
      go_wp2_with fail
      go_ret
      exact ⟨by rw [HC.out]; rfl, (by repeat (first | (with_reducible exact Below.refl _ _) | (with_reducible exact HB.out) | (with_reducible apply below_alloc) | (with_reducible apply below_drew) | (with_reducible apply pw_below_drewN) | (with_reducible refine bstep' ?_ (by assumption)) | ((with_reducible refine Below.setCell ?_ ?_ _); rotate_left; (first | (dsimp only; omega) | (simp; done) | (simp; omega) | omega))))⟩
  · have HN := Aside0.mk hbig
    have h12 : ¬ (12 : Int) < (bs.length : Int) := by omega
    have h60 : ¬ (60 : Int) < (fs.length : Int) := by omega
    clear hbig
    go_enter Try.func12, Try.ntmps12
    go_wp2_with fail
    go_loopg [3] bs.length (fun m cnt wr => ∃ k : Nat, k + m = bs.length ∧ cnt = .int .i64 k ∧ Aside0 (∀ j : Nat, j < k → smallB (rBx bs j) = true) ∧ wr.cell? ⟨w.heap.size, 0, none⟩ = some (.slice A1 bs.length c1) ∧ wr.cell? ⟨w.heap.size, 1, none⟩ = some (.slice A2 fs.length c2) ∧ w.heap.size < wr.heap.size ∧ Aside0 (Below w.heap.size w wr))
    case atStart => exact ⟨0, by omega, rfl, ⟨fun j hj => absurd hj (Nat.not_lt_zero _)⟩, by go_simp, by go_simp, by simp, ⟨(by repeat (first | (with_reducible exact Below.refl _ _) | (with_reducible exact HB.out) | (with_reducible apply below_alloc) | (with_reducible apply below_drew) | (with_reducible apply pw_below_drewN) | (with_reducible refine bstep' ?_ (by assumption)) | ((with_reducible refine Below.setCell ?_ ?_ _); rotate_left; (first | (dsimp only; omega) | (simp; done) | (simp; omega) | omega))))⟩⟩
    case round =>
      obtain ⟨k, hk, rfl, HE, e0, e1, hlw, HB⟩ := hrel
      by_cases hlt : k < bs.length
      · obtain ⟨b, off, rfl, hb, b0, b1, b2, b3⟩ := at_Bx (Kd.C_below H1.out HB.out) (k : Int) (by omega) (by omega)
        simp only [Int.toNat_natCast] at b0 b1 b2 b3
        have hw1 : w.heap.size < wr.heap.size + 1 := by omega
        have hbr : b < wr.heap.size + 1 := by omega
        cases hv : validB (rBx bs (k : Int)) with
        | false =>
          have HX := Aside0.mk (check_box (p := ⟨bs, fs⟩) HN.out hlt (by simp [smallB, hv]))
          go_wp2_with (first | (go_at_call 33; refine (refValid_c (rBx bs (k : Int)) _).mono ?_; rintro e w1 ⟨rfl, hb1⟩; obtain ⟨hc1, hf1, hz1⟩ := bcell hb1; (try simp only [World.size_alloc, World.size_setCell, World.size_drew] at hz1)))
          go_ret
          exact ⟨by rw [HX.out]; rfl, (by repeat (first | (with_reducible exact Below.refl _ _) | (with_reducible exact HB.out) | (with_reducible assumption) | (with_reducible apply below_alloc) | (with_reducible apply below_drew) | (with_reducible apply pw_below_drewN) | (with_reducible refine bstep' ?_ (by assumption)) | ((with_reducible refine Below.setCell ?_ ?_ _); rotate_left; (first | (dsimp only; omega) | (simp; done) | (simp; omega) | omega))))⟩
        | true =>
          obtain ⟨v1, v2, v3, v4, v5, v6, v7, v8⟩ := valid_bd hv
          by_cases hx : (rBx bs (k : Int)).x.hi - (rBx bs (k : Int)).x.lo + 1 ≤ 1024
          · by_cases hy : (rBx bs (k : Int)).y.hi - (rBx bs (k : Int)).y.lo + 1 ≤ 1024
            · have HS := Aside0.mk (small_of hv hx hy)
              go_wp2_with (first | (go_at_call 33; refine (refValid_c (rBx bs (k : Int)) _).mono ?_; rintro e w1 ⟨rfl, hb1⟩; obtain ⟨hc1, hf1, hz1⟩ := bcell hb1; (try simp only [World.size_alloc, World.size_setCell, World.size_drew] at hz1); have hs1 : wr.heap.size < w1.heap.size := (by omega); have hw1 : w.heap.size < w1.heap.size := (by omega)) | (go_at_call 31; refine (size_c _ _ _ (by omega) (by omega)).mono ?_; rintro e w2 ⟨rfl, hb2⟩; obtain ⟨hc2, hf2, hz2⟩ := bcell hb2; (try simp only [World.size_alloc, World.size_setCell, World.size_drew] at hz2); have hs2 : wr.heap.size < w2.heap.size := (by omega); have hw2 : w.heap.size < w2.heap.size := (by omega)))
              go_roundg (gk - 1)
              case measure => omega
              case rel => exact ⟨k + 1, by omega, by go_num, ⟨fun j hj => by
                rcases Nat.lt_or_ge j k with h | h
                · exact HE.out j h
                · obtain rfl : j = k := by omega
                  exact HS.out⟩, by go_simp, by go_simp, by omega, ⟨(by repeat (first | (with_reducible exact Below.refl _ _) | (with_reducible exact HB.out) | (with_reducible assumption) | (with_reducible apply below_alloc) | (with_reducible apply below_drew) | (with_reducible apply pw_below_drewN) | (with_reducible refine bstep' ?_ (by assumption)) | ((with_reducible refine Below.setCell ?_ ?_ _); rotate_left; (first | (dsimp only; omega) | (simp; done) | (simp; omega) | omega))))⟩⟩
            · have HX := Aside0.mk (check_box (p := ⟨bs, fs⟩) HN.out hlt (not_small_y hy))
              go_wp2_with (first | (go_at_call 33; refine (refValid_c (rBx bs (k : Int)) _).mono ?_; rintro e w1 ⟨rfl, hb1⟩; obtain ⟨hc1, hf1, hz1⟩ := bcell hb1; (try simp only [World.size_alloc, World.size_setCell, World.size_drew] at hz1); have hs1 : wr.heap.size < w1.heap.size := (by omega); have hw1 : w.heap.size < w1.heap.size := (by omega)) | (go_at_call 31; refine (size_c _ _ _ (by omega) (by omega)).mono ?_; rintro e w2 ⟨rfl, hb2⟩; obtain ⟨hc2, hf2, hz2⟩ := bcell hb2; (try simp only [World.size_alloc, World.size_setCell, World.size_drew] at hz2); have hs2 : wr.heap.size < w2.heap.size := (by omega); have hw2 : w.heap.size < w2.heap.size := (by omega)))
              go_ret
              exact ⟨by rw [HX.out]; rfl, (by repeat (first | (with_reducible exact Below.refl _ _) | (with_reducible exact HB.out) | (with_reducible assumption) | (with_reducible apply below_alloc) | (with_reducible apply below_drew) | (with_reducible apply pw_below_drewN) | (with_reducible refine bstep' ?_ (by assumption)) | ((with_reducible refine Below.setCell ?_ ?_ _); rotate_left; (first | (dsimp only; omega) | (simp; done) | (simp; omega) | omega))))⟩
          · have HX := Aside0.mk (check_box (p := ⟨bs, fs⟩) HN.out hlt (not_small_x hx))
            go_wp2_with (first | (go_at_call 33; refine (refValid_c (rBx bs (k : Int)) _).mono ?_; rintro e w1 ⟨rfl, hb1⟩; obtain ⟨hc1, hf1, hz1⟩ := bcell hb1; (try simp only [World.size_alloc, World.size_setCell, World.size_drew] at hz1); have hs1 : wr.heap.size < w1.heap.size := (by omega); have hw1 : w.heap.size < w1.heap.size := (by omega)) | (go_at_call 31; refine (size_c _ _ _ (by omega) (by omega)).mono ?_; rintro e w2 ⟨rfl, hb2⟩; obtain ⟨hc2, hf2, hz2⟩ := bcell hb2; (try simp only [World.size_alloc, World.size_setCell, World.size_drew] at hz2); have hs2 : wr.heap.size < w2.heap.size := (by omega); have hw2 : w.heap.size < w2.heap.size := (by omega)))
            go_ret
            exact ⟨by rw [HX.out]; rfl, (by repeat (first | (with_reducible exact Below.refl _ _) | (with_reducible exact HB.out) | (with_reducible assumption) | (with_reducible apply below_alloc) | (with_reducible apply below_drew) | (with_reducible apply pw_below_drewN) | (with_reducible refine bstep' ?_ (by assumption)) | ((with_reducible refine Below.setCell ?_ ?_ _); rotate_left; (first | (dsimp only; omega) | (simp; done) | (simp; omega) | omega))))⟩
      · obtain rfl : k = bs.length := by omega
        go_wp2_with fail
        have HA := HE
        obtain ⟨wo, rfl⟩ : ∃ u, u = wr := ⟨_, rfl⟩
        obtain ⟨g1, rfl⟩ : ∃ u, u = gk := ⟨_, rfl⟩
        have HBo := HB
        go_loopg [6] fs.length (fun m cnt wr => ∃ k : Nat, k + m = fs.length ∧ cnt = .int .i64 k ∧ Aside0 (∀ j : Nat, j < k → formedB (rFct fs j) bs.length = true) ∧ wr.cell? ⟨w.heap.size, 0, none⟩ = some (.slice A1 bs.length c1) ∧ wr.cell? ⟨w.heap.size, 1, none⟩ = some (.slice A2 fs.length c2) ∧ w.heap.size < wr.heap.size ∧ Aside0 (Below w.heap.size w wr))
        case atStart => exact ⟨0, by omega, rfl, ⟨fun j hj => absurd hj (Nat.not_lt_zero _)⟩, e0, e1, hlw, HB⟩
        case round =>
          clear e0 e1 HB HE
          obtain ⟨k, hk, rfl, HE, e0, e1, hlw2, HB⟩ := hrel
          by_cases hlt2 : k < fs.length
          · obtain ⟨b, off, rfl, hb, f0, f1, f2, f3, f4, f5, f6, f7, f8⟩ := at_Fct (Kd.C_below H2.out HB.out) (k : Int) (by omega) (by omega)
            simp only [Int.toNat_natCast] at f0 f1 f2 f3 f4 f5 f6 f7 f8
            have hw1 : w.heap.size < wr.heap.size + 1 := by omega
            cases hv : formedB (rFct fs (k : Int)) bs.length with
            | false =>
              have HX := Aside0.mk (check_fact (p := ⟨bs, fs⟩) HN.out hlt2 hv)
              go_wp2_with fail
              (refine wp_region_quiet (C := fun w' => ∃ t : Later _, w' = t.w) (by kernel_rfl) (by kernel_rfl) (IsLater.drew _) ?_; (repeat (first | go_big_quiet_step ((go_at_call 34; exact later_of (refFormed_c (rFct fs (k : Int)) _ _ (by omega) (by omega)))) | quiet_step ((go_at_call 34; exact later_of (refFormed_c (rFct fs (k : Int)) _ _ (by omega) (by omega)))))); refine wpQuiet_nil ?_; rintro _ ⟨tq, rfl⟩)
              try rw [hv]
              go_wp2_with fail
              go_ret
              exact ⟨by rw [HX.out]; rfl, bstep' HB.out tq.h⟩
            | true =>
              have HS := Aside0.mk hv
              go_wp2_with fail
              (refine wp_region_quiet (C := fun w' => ∃ t : Later _, w' = t.w) (by kernel_rfl) (by kernel_rfl) (IsLater.drew _) ?_; (repeat (first | go_big_quiet_step ((go_at_call 34; exact later_of (refFormed_c (rFct fs (k : Int)) _ _ (by omega) (by omega)))) | quiet_step ((go_at_call 34; exact later_of (refFormed_c (rFct fs (k : Int)) _ _ (by omega) (by omega)))))); refine wpQuiet_nil ?_; rintro _ ⟨tq, rfl⟩)
              try rw [hv]
              have t0 := (tq.h.cell (p := ⟨w.heap.size, 0, none⟩) hlw2).trans e0
              have t1 := (tq.h.cell (p := ⟨w.heap.size, 1, none⟩) hlw2).trans e1
              have hlw3 := Nat.lt_of_lt_of_le hlw2 tq.h.size
              go_wp2_with fail
              go_roundg (gk - 1)
              case measure => omega
              case rel => exact ⟨k + 1, by omega, by go_num, ⟨fun j hj => by
                rcases Nat.lt_or_ge j k with h | h
                · exact HE.out j h
                · obtain rfl : j = k := by omega
                  exact HS.out⟩, t0, t1, hlw3, ⟨bstep' HB.out tq.h⟩⟩
          · obtain rfl : k = fs.length := by omega
            have HX := Aside0.mk (check_ok (p := ⟨bs, fs⟩) HN.out (fun j hj => HA.out j hj) (fun j hj => HE.out j hj))
            go_wp2_with fail
            go_ret
            exact ⟨by rw [HX.out]; rfl, HB.out⟩

end Go.Proofs.Ytkkimlicabbooaa

/-
  SearchChecks, walked.
-/
namespace Go.Proofs.Ytkkimlicabbooaa
open Go.RowKit Go.Proofs.YtkkimlicabbooaaW.PrintWords Bs
attribute [local go_sem] Later.cell? Later.frozen?
set_option linter.unusedVariables false
set_option linter.unusedSimpArgs false

set_option maxHeartbeats 800000 in
theorem some_c (A1 A2 : Option Addr) (n nf c1 c2 : Nat) (w : World) (hn : n ≤ 9223372036854775807) (hf : nf ≤ 9223372036854775807) :
    Calls Try.prog 10 #[.agg #[.slice A1 n c1, .slice A2 nf c2]] w fun e w' => e = .returned (.bool (decide ((n : Int) ≤ 40) && decide ((nf : Int) ≤ 130))) ∧ Below w.heap.size w w' := by
  by_cases h : (n : Int) ≤ 40
  · go_enter Try.func10, Try.ntmps10
    go_wp2_with fail
    go_ret
    exact ⟨by simp [h], (by repeat (first | (with_reducible exact Below.refl _ _) | (with_reducible exact HB.out) | (with_reducible assumption) | (with_reducible apply below_alloc) | (with_reducible apply below_drew) | (with_reducible apply pw_below_drewN) | (with_reducible refine bstep' ?_ (by assumption)) | ((with_reducible refine Below.setCell ?_ ?_ _); rotate_left; (first | (dsimp only; omega) | (simp; done) | (simp; omega) | omega))))⟩
  · go_enter Try.func10, Try.ntmps10
    go_wp2_with fail
    go_ret
    exact ⟨by simp [h]; omega, (by repeat (first | (with_reducible exact Below.refl _ _) | (with_reducible exact HB.out) | (with_reducible assumption) | (with_reducible apply below_alloc) | (with_reducible apply below_drew) | (with_reducible apply pw_below_drewN) | (with_reducible refine bstep' ?_ (by assumption)) | ((with_reducible refine Below.setCell ?_ ?_ _); rotate_left; (first | (dsimp only; omega) | (simp; done) | (simp; omega) | omega))))⟩

set_option maxHeartbeats 1600000 in
set_option maxRecDepth 100000 in
theorem searchChecks_c (A1 A2 : Option Addr) (n nf c1 c2 : Nat) (bs : List Bx) (fs : List Fct) (w : World) (h1 : kBx.C w A1 n bs) (h2 : kFct.C w A2 nf fs) :
    Calls Try.prog 3 #[.agg #[.slice A1 n c1, .slice A2 nf c2]] w fun e w' => e = .returned (.bool true) ∧ Below w.heap.size w w' := by
  have H1 := Aside0.mk h1
  have H2 := Aside0.mk h2
  have HN := Aside0.mk h1.2.1
  have HF := Aside0.mk h2.2.1
  clear h1 h2
  go_enter Try.func3, Try.ntmps3
  go_wp2_with fail
  generalize hW : (w.alloc _ : World) = W
  have e0 : W.cell? ⟨w.heap.size, 0, none⟩ = some (.slice A1 n c1) := by subst hW; go_simp
  have e1 : W.cell? ⟨w.heap.size, 1, none⟩ = some (.slice A2 nf c2) := by subst hW; go_simp
  have HBW := Aside0.mk (show Below w.heap.size w W by subst hW; exact (by repeat (first | (with_reducible exact Below.refl _ _) | (with_reducible exact HB.out) | (with_reducible assumption) | (with_reducible apply below_alloc) | (with_reducible apply below_drew) | (with_reducible apply pw_below_drewN) | (with_reducible refine bstep' ?_ (by assumption)) | ((with_reducible refine Below.setCell ?_ ?_ _); rotate_left; (first | (dsimp only; omega) | (simp; done) | (simp; omega) | omega)))))
  have hz : w.heap.size < W.heap.size := by subst hW; simp
  clear hW
  refine (head_c _).mono ?_
  rintro e w1 ⟨rfl, hb1⟩
  have e0 := (hb1.cell (p := ⟨w.heap.size, 0, none⟩) hz).trans e0
  have e1 := (hb1.cell (p := ⟨w.heap.size, 1, none⟩) hz).trans e1
  have HB1 := Aside0.mk (bstep' HBW.out hb1)
  have hlt : w.heap.size < w1.heap.size := Nat.lt_of_lt_of_le hz hb1.size
  clear hb1 hz
  go_wp2_with fail
  refine (some_c A1 A2 n nf c1 c2 _ HN.out HF.out).mono ?_
  generalize (decide ((n : Int) ≤ 40) && decide ((nf : Int) ≤ 130)) = b
  rintro e w2 ⟨rfl, hb2⟩
  have e0 := (hb2.cell (p := ⟨w.heap.size, 0, none⟩) hlt).trans e0
  have e1 := (hb2.cell (p := ⟨w.heap.size, 1, none⟩) hlt).trans e1
  have HB2 := Aside0.mk (bstep' HB1.out hb2)
  have hlt2 : w.heap.size < w2.heap.size := Nat.lt_of_lt_of_le hlt hb2.size
  clear hb2 hlt
  cases b with
  | false =>
    go_wp2_with fail
    go_ret
    exact ⟨rfl, HB2.out⟩
  | true =>
    go_wp2_with fail
    (refine wp_region_quiet (C := fun w' => ∃ t : Later _, w' = t.w) (by kernel_rfl) (by kernel_rfl) (IsLater.drew _) ?_; (repeat (first | go_big_quiet_step ((first | (go_at_call 11; exact later_of (check_c A1 A2 n nf c1 c2 bs fs _ (Kd.C_below H1.out (bstep' HB2.out (Later.h _))) (Kd.C_below H2.out (bstep' HB2.out (Later.h _))))) | (go_at_call 12; exact later_of (refCheck_c A1 A2 n nf c1 c2 bs fs _ (Kd.C_below H1.out (bstep' HB2.out (Later.h _))) (Kd.C_below H2.out (bstep' HB2.out (Later.h _))))))) | quiet_step ((first | (go_at_call 11; exact later_of (check_c A1 A2 n nf c1 c2 bs fs _ (Kd.C_below H1.out (bstep' HB2.out (Later.h _))) (Kd.C_below H2.out (bstep' HB2.out (Later.h _))))) | (go_at_call 12; exact later_of (refCheck_c A1 A2 n nf c1 c2 bs fs _ (Kd.C_below H1.out (bstep' HB2.out (Later.h _))) (Kd.C_below H2.out (bstep' HB2.out (Later.h _))))))))); refine wpQuiet_nil ?_; rintro _ ⟨tq, rfl⟩)
    go_wp2_with fail
    go_ret
    exact ⟨by simp, bstep' HB2.out tq.h⟩
end Go.Proofs.Ytkkimlicabbooaa

/-
  A problem that is handed in: its boxes and facts as lists.
-/
namespace Go.Proofs.Ytkkimlicabbooaa
open Go.RowKit Go.Proofs.YtkkimlicabbooaaW.PrintWords Bs
open Go.ChangeShapes Go.WideShapes Go.Deep
set_option linter.unusedVariables false
set_option linter.unusedSimpArgs false

section
variable {H : Type} {enc : TypeId × Value → H} {w : World} {base : Nat} {spare : Nat → Bool} {held : Bool}
theorem C_of_slice {α : Type} (d : Kd α) (enc0 : α → List Value) (z : α) (hK : ∀ w x, d.K w x (enc0 x)) {t e : TypeId} (ht : Try.prog.underlying t = some (.slice e)) (hc : Try.prog.cellsOf e = d.sz)
    (hel : ∀ n cs y, DataW.trod enc Try.prog w base spare held n e cs = some y → ∃ x : α, cs = enc0 x) {fuel : Nat} {v : Value} {y : DataW H × List MemPlace} (h : DataW.trod enc Try.prog w base spare held fuel t [v] = some y) :
    ∃ A n c xs, v = .slice A n c ∧ d.C w A n xs := by
  rcases open_slice ht h with ⟨h0, _⟩ | ⟨a, len, cap, m, n, D, Pl, h0, hb, hl, hm, hmm, _, hx⟩
  · injection h0 with h0 _
    subst h0
    exact ⟨none, 0, 0, [], rfl, rfl, by omega, fun h => by omega⟩
  · injection h0 with h0 _
    subst h0
    have hlm : len ≤ m := by rw [hmm]; split <;> omega
    have each : ∀ i, ∃ x : α, i < len → ∀ j u, (enc0 x)[j]? = some u → w.cell? (a.add (i * d.sz + j)) = some u := by
      intro i
      by_cases hi : i < len
      · obtain ⟨cs', h1, h2⟩ := hx i (by omega)
        obtain ⟨x, rfl⟩ := hel _ _ _ h2
        refine ⟨x, fun _ j u hu => ?_⟩
        rw [hc] at h1
        obtain ⟨_, hlen, hcell⟩ := World.cells?_some h1
        have hj : j < d.sz := by rw [← hlen]; exact (List.getElem?_eq_some_iff.1 hu).1
        have h3 := hcell j hj
        rw [Deep.add_add] at h3
        rw [h3, hu]
      · exact ⟨z, fun h => absurd h hi⟩
    obtain ⟨f, hf⟩ := Classical.axiomOfChoice each
    refine ⟨some a, len, cap, (List.range len).map f, rfl, by simp, by simp only [maxLen] at hm; omega, fun _ => ⟨a, rfl, fun j p hj => ?_⟩⟩
    have hjl : j < len := by
      rcases Nat.lt_or_ge j len with h | h
      · exact h
      · rw [List.getElem?_eq_none (by simpa using h)] at hj; cases hj
    have hp : f j = p := by simpa [hjl] using hj
    subst hp
    exact ⟨enc0 (f j), d.K_len (hK w _), hK w _, fun i u hu => hf j hjl i u hu⟩
theorem t_field {t : TypeId} {fs : Array Field} (ht : Try.prog.underlying t = some (.struct fs)) {n : Nat} {cs : List Value} {y : DataW H × List MemPlace} (h : DataW.trod enc Try.prog w base spare held n t cs = some y) :
    cs.length = Try.prog.cellsOf t ∧ ∃ k, ∀ (i : Nat) (f : Field), fs[i]? = some f → ∃ y, DataW.trod enc Try.prog w base spare held k f.type ((cs.drop f.offset).take (Try.prog.cellsOf f.type)) = some y := by
  obtain ⟨xs, k, rfl, _, hl, hx, hf⟩ := DataW.trod_struct ht h
  refine ⟨hl, k, fun i f hi => ?_⟩
  have hlt : i < xs.length := by rw [hx]; exact (Array.getElem?_eq_some_iff.1 hi).1
  exact ⟨xs[i], by rw [hf i f hi]; exact List.getElem?_eq_getElem hlt⟩
theorem one_int : Try.prog.cellsOf 3 = 1 := by kernel_rfl
theorem one_bool : Try.prog.cellsOf 4 = 1 := by kernel_rfl
theorem two_span : Try.prog.cellsOf 31 = 2 := by kernel_rfl
theorem four_box : Try.prog.cellsOf 42 = 4 := by kernel_rfl
theorem nine_fct : Try.prog.cellsOf 33 = 9 := by kernel_rfl
theorem t_int {n : Nat} {c : Value} {cs : List Value} {y : DataW H × List MemPlace} (h : DataW.trod enc Try.prog w base spare held n 3 cs = some y) (hc : cs = [c]) : ∃ a : Int, c = .int .i64 a := by
  obtain ⟨a, ha, _⟩ := DataW.trod_int Try.underlying3 h
  rw [hc] at ha
  exact ⟨a, by injection ha⟩
theorem t_bool {n : Nat} {c : Value} {cs : List Value} {y : DataW H × List MemPlace} (h : DataW.trod enc Try.prog w base spare held n 4 cs = some y) (hc : cs = [c]) : ∃ a : Bool, c = .bool a := by
  obtain ⟨a, ha, _⟩ := DataW.trod_bool Try.underlying4 h
  rw [hc] at ha
  exact ⟨a, by injection ha⟩
theorem t_span {n : Nat} {c0 c1 : Value} {cs : List Value} {y : DataW H × List MemPlace} (h : DataW.trod enc Try.prog w base spare held n 31 cs = some y) (hc : cs = [c0, c1]) : ∃ a b : Int, c0 = .int .i64 a ∧ c1 = .int .i64 b := by
  subst hc
  obtain ⟨hl, k, hf⟩ := t_field Try.underlying31 h
  obtain ⟨_, h0⟩ := hf 0 _ rfl
  obtain ⟨_, h1⟩ := hf 1 _ rfl
  obtain ⟨a, ha⟩ := t_int h0 (c := c0) (by show List.take (Try.prog.cellsOf 3) (List.drop 0 [c0, c1]) = [c0]; rw [one_int]; rfl)
  obtain ⟨b, hb⟩ := t_int h1 (c := c1) (by show List.take (Try.prog.cellsOf 3) (List.drop 1 [c0, c1]) = [c1]; rw [one_int]; rfl)
  exact ⟨a, b, ha, hb⟩
theorem t_box {n : Nat} {cs : List Value} {y : DataW H × List MemPlace} (h : DataW.trod enc Try.prog w base spare held n 42 cs = some y) : ∃ b : Bx, cs = encBx b := by
  obtain ⟨hl, k, hf⟩ := t_field Try.underlying42 h
  rw [four_box] at hl
  obtain ⟨c0, c1, c2, c3, rfl⟩ : ∃ c0 c1 c2 c3, cs = [c0, c1, c2, c3] := by
    rcases cs with _ | ⟨c0, _ | ⟨c1, _ | ⟨c2, _ | ⟨c3, _ | ⟨c4, r⟩⟩⟩⟩⟩ <;> simp at hl
    exact ⟨c0, c1, c2, c3, rfl⟩
  obtain ⟨_, h0⟩ := hf 0 _ rfl
  obtain ⟨_, h1⟩ := hf 1 _ rfl
  obtain ⟨a, b, rfl, rfl⟩ := t_span h0 (c0 := c0) (c1 := c1) (by show List.take (Try.prog.cellsOf 31) (List.drop 0 [c0, c1, c2, c3]) = [c0, c1]; rw [two_span]; rfl)
  obtain ⟨c, d, rfl, rfl⟩ := t_span h1 (c0 := c2) (c1 := c3) (by show List.take (Try.prog.cellsOf 31) (List.drop 2 [Value.int .i64 a, Value.int .i64 b, c2, c3]) = [c2, c3]; rw [two_span]; rfl)
  exact ⟨⟨⟨a, b⟩, ⟨c, d⟩⟩, rfl⟩
theorem t_fct {n : Nat} {cs : List Value} {y : DataW H × List MemPlace} (h : DataW.trod enc Try.prog w base spare held n 33 cs = some y) : ∃ f : Fct, cs = encFct f := by
  obtain ⟨hl, k, hf⟩ := t_field Try.underlying33 h
  rw [nine_fct] at hl
  obtain ⟨c0, c1, c2, c3, c4, c5, c6, c7, c8, rfl⟩ : ∃ c0 c1 c2 c3 c4 c5 c6 c7 c8, cs = [c0, c1, c2, c3, c4, c5, c6, c7, c8] := by
    rcases cs with _ | ⟨c0, _ | ⟨c1, _ | ⟨c2, _ | ⟨c3, _ | ⟨c4, _ | ⟨c5, _ | ⟨c6, _ | ⟨c7, _ | ⟨c8, _ | ⟨c9, r⟩⟩⟩⟩⟩⟩⟩⟩⟩⟩ <;> simp at hl
    exact ⟨c0, c1, c2, c3, c4, c5, c6, c7, c8, rfl⟩
  obtain ⟨_, h0⟩ := hf 0 _ rfl
  obtain ⟨_, h1⟩ := hf 1 _ rfl
  obtain ⟨_, h2⟩ := hf 2 _ rfl
  obtain ⟨_, h3⟩ := hf 3 _ rfl
  obtain ⟨_, h4⟩ := hf 4 _ rfl
  obtain ⟨_, h5⟩ := hf 5 _ rfl
  obtain ⟨_, h6⟩ := hf 6 _ rfl
  obtain ⟨_, h7⟩ := hf 7 _ rfl
  obtain ⟨x0, e0⟩ := t_int h0 (c := c0) (by show List.take (Try.prog.cellsOf 3) (List.drop 0 [c0, c1, c2, c3, c4, c5, c6, c7, c8]) = [c0]; rw [one_int]; rfl)
  obtain ⟨x1, e1⟩ := t_int h1 (c := c1) (by show List.take (Try.prog.cellsOf 3) (List.drop 1 [c0, c1, c2, c3, c4, c5, c6, c7, c8]) = [c1]; rw [one_int]; rfl)
  obtain ⟨x2, e2⟩ := t_bool h2 (c := c2) (by show List.take (Try.prog.cellsOf 4) (List.drop 2 [c0, c1, c2, c3, c4, c5, c6, c7, c8]) = [c2]; rw [one_bool]; rfl)
  obtain ⟨x3, e3⟩ := t_int h3 (c := c3) (by show List.take (Try.prog.cellsOf 3) (List.drop 3 [c0, c1, c2, c3, c4, c5, c6, c7, c8]) = [c3]; rw [one_int]; rfl)
  obtain ⟨x4, e4⟩ := t_int h4 (c := c4) (by show List.take (Try.prog.cellsOf 3) (List.drop 4 [c0, c1, c2, c3, c4, c5, c6, c7, c8]) = [c4]; rw [one_int]; rfl)
  obtain ⟨x5, e5⟩ := t_int h5 (c := c5) (by show List.take (Try.prog.cellsOf 3) (List.drop 5 [c0, c1, c2, c3, c4, c5, c6, c7, c8]) = [c5]; rw [one_int]; rfl)
  obtain ⟨x8, e8⟩ := t_int h7 (c := c8) (by show List.take (Try.prog.cellsOf 3) (List.drop 8 [c0, c1, c2, c3, c4, c5, c6, c7, c8]) = [c8]; rw [one_int]; rfl)
  obtain ⟨x6, x7, e6, e7⟩ := t_span h6 (c0 := c6) (c1 := c7) (by show List.take (Try.prog.cellsOf 31) (List.drop 6 [c0, c1, c2, c3, c4, c5, c6, c7, c8]) = [c6, c7]; rw [two_span]; rfl)
  subst e0 e1 e2 e3 e4 e5 e6 e7 e8
  exact ⟨⟨x0, x1, x2, x3, x4, x5, ⟨x6, x7⟩, x8⟩, rfl⟩
end
end Go.Proofs.Ytkkimlicabbooaa

/-
  Arguments that are handed in: a problem, a fact, a point.
-/
namespace Go.Proofs.Ytkkimlicabbooaa
open Go.ChangeShapes Go.WideShapes Go.ChangeAt Go.RowKit Go.Proofs.YtkkimlicabbooaaW.PrintWords Bs Go.Joins
set_option linter.unusedVariables false
set_option linter.unusedSimpArgs false
set_option maxRecDepth 100000

theorem own : ownKnob Try.prog.godebug = none := by kernel_rfl
theorem laidOut : laidOutB Try.prog = true := by kernel_rfl
theorem two_prob : Try.prog.cellsOf 25 = 2 := by kernel_rfl
section
variable {H : Type} {enc : TypeId × Value → H} {w : World} {base : Nat} {spare : Nat → Bool} {held : Bool} {r : Reach} {b0 : Nat} {v : Value} {d : DataW H} {p : List MemPlace}
theorem open_prob (hv : Value.okWide Try.prog w r b0 25 v) (h : DataW.Trod enc Try.prog w base spare held 25 v d p) :
    ∃ A1 n1 k1 bs A2 n2 k2 fs, v = .agg #[.slice A1 n1 k1, .slice A2 n2 k2] ∧ kBx.C w A1 n1 bs ∧ kFct.C w A2 n2 fs := by
  obtain ⟨e0, e1, y0, y1, m, rfl, _, _, hy0, hy1⟩ := open_agg2 Try.underlying25 (by kernel_rfl) two_prob hv h
  obtain ⟨A1, n1, k1, bs, rfl, hb⟩ := C_of_slice kBx encBx ⟨⟨0, 0⟩, ⟨0, 0⟩⟩ (fun _ _ => rfl) Try.underlying22 four_box (fun n cs y h => t_box h) hy0
  obtain ⟨A2, n2, k2, fs, rfl, hf⟩ := C_of_slice kFct encFct ⟨0, 0, false, 0, 0, 0, ⟨0, 0⟩, 0⟩ (fun _ _ => rfl) Try.underlying23 nine_fct (fun n cs y h => t_fct h) hy1
  exact ⟨A1, n1, k1, bs, A2, n2, k2, fs, rfl, hb, hf⟩
theorem open_fct (hv : Value.okWide Try.prog w r b0 33 v) (h : DataW.Trod enc Try.prog w base spare held 33 v d p) : ∃ f : Fct, v = .agg #[.int .i64 f.id, .int .i64 f.kind, .bool f.no, .int .i64 f.a, .int .i64 f.b, .int .i64 f.c, .int .i64 f.span.lo, .int .i64 f.span.hi, .int .i64 f.quarter] := by
  obtain ⟨cs, rfl, hsz⟩ := okWide_struct Try.underlying33 hv
  obtain ⟨n, hn⟩ := h
  obtain ⟨f, hf⟩ := t_fct (cs := cs.toList) (by simpa [Value.cells] using hn)
  refine ⟨f, ?_⟩
  have e : cs = (encFct f).toArray := by rw [← hf]
  rw [e]; rfl
theorem two_pt : Try.prog.cellsOf 49 = 2 := by kernel_rfl
theorem t_pt {n : Nat} {cs : List Value} {y : DataW H × List MemPlace} (h : DataW.trod enc Try.prog w base spare held n 49 cs = some y) : ∃ q : Pt, cs = encPt q := by
  obtain ⟨hl, k, hf⟩ := t_field Try.underlying49 h
  rw [two_pt] at hl
  obtain ⟨c0, c1, rfl⟩ : ∃ c0 c1, cs = [c0, c1] := by
    rcases cs with _ | ⟨c0, _ | ⟨c1, _ | ⟨c2, r⟩⟩⟩ <;> simp at hl
    exact ⟨c0, c1, rfl⟩
  obtain ⟨_, h0⟩ := hf 0 _ rfl
  obtain ⟨_, h1⟩ := hf 1 _ rfl
  obtain ⟨a, ha⟩ := t_int h0 (c := c0) (by show List.take (Try.prog.cellsOf 3) (List.drop 0 [c0, c1]) = [c0]; rw [one_int]; rfl)
  obtain ⟨b, hb⟩ := t_int h1 (c := c1) (by show List.take (Try.prog.cellsOf 3) (List.drop 1 [c0, c1]) = [c1]; rw [one_int]; rfl)
  subst ha hb
  exact ⟨⟨a, b⟩, rfl⟩
theorem open_pt (hv : Value.okWide Try.prog w r b0 49 v) (h : DataW.Trod enc Try.prog w base spare held 49 v d p) : ∃ q : Pt, v = .agg #[.int .i64 q.x, .int .i64 q.y] := by
  obtain ⟨cs, rfl, hsz⟩ := okWide_struct Try.underlying49 hv
  obtain ⟨n, hn⟩ := h
  obtain ⟨q, hq⟩ := t_pt (cs := cs.toList) (by simpa [Value.cells] using hn)
  refine ⟨q, ?_⟩
  have e : cs = (encPt q).toArray := by rw [← hq]
  rw [e]; rfl
end
end Go.Proofs.Ytkkimlicabbooaa

/-
  Few, boxes and lies of the law.
-/

namespace Go.Proofs.Ytkkimlicabbooaa
open Go.RowKit Go.Proofs.YtkkimlicabbooaaW.PrintWords Bs
attribute [local go_sem] Later.cell? Later.frozen?
set_option linter.unusedVariables false
set_option linter.unusedSimpArgs false

set_option maxHeartbeats 1600000 in
theorem few_c (A1 A2 : Option Addr) (n1 n2 c1 c2 : Nat) (bs : List Bx) (fs : List Fct) (w : World) (h1 : kBx.C w A1 n1 bs) (h2 : kFct.C w A2 n2 fs) :
    Calls Try.prog 13 #[.agg #[.slice A1 n1 c1, .slice A2 n2 c2]] w fun e w' => e = .returned (.bool (fewP ⟨bs, fs⟩)) ∧ Below w.heap.size w w' := by
  have H1 := Aside0.mk h1
  obtain ⟨rfl, hn1, _⟩ := h1
  obtain ⟨rfl, hn2, _⟩ := h2
  by_cases h5 : (5 : Int) < (bs.length : Int)
  · have HC := Aside0.mk (show fewP ⟨bs, fs⟩ = false by unfold fewP; rw [show decide (bs.length ≤ 5) = false from decide_eq_false (by omega)]; rfl)
    go_enter Try.func13, Try.ntmps13
    go_wp2_with fail
    go_ret
    exact ⟨by rw [HC.out]; rfl, (by repeat (first | (with_reducible exact Below.refl _ _) | (with_reducible exact HB.out) | (with_reducible apply below_alloc) | (with_reducible apply below_drew) | (with_reducible apply pw_below_drewN) | (with_reducible refine bstep' ?_ (by assumption)) | ((with_reducible refine Below.setCell ?_ ?_ _); rotate_left; (first | (dsimp only; omega) | (simp; done) | (simp; omega) | omega))))⟩
  · by_cases h16 : (16 : Int) < (fs.length : Int)
    · have HC := Aside0.mk (show fewP ⟨bs, fs⟩ = false by unfold fewP; rw [show decide (fs.length ≤ 16) = false from decide_eq_false (by omega)]; simp)
      go_enter Try.func13, Try.ntmps13
      go_wp2_with fail
      go_ret
      exact ⟨by rw [HC.out]; rfl, (by repeat (first | (with_reducible exact Below.refl _ _) | (with_reducible exact HB.out) | (with_reducible apply below_alloc) | (with_reducible apply below_drew) | (with_reducible apply pw_below_drewN) | (with_reducible refine bstep' ?_ (by assumption)) | ((with_reducible refine Below.setCell ?_ ?_ _); rotate_left; (first | (dsimp only; omega) | (simp; done) | (simp; omega) | omega))))⟩
    · go_enter Try.func13, Try.ntmps13
      go_wp2_with fail
      go_loopg [3] bs.length (fun m cnt wr => ∃ k : Nat, k + m = bs.length ∧ cnt = .int .i64 k ∧ Aside0 (∀ j : Nat, j < k → fewB (rBx bs j) = true) ∧ wr.cell? ⟨w.heap.size, 0, none⟩ = some (.slice A1 bs.length c1) ∧ w.heap.size < wr.heap.size ∧ Aside0 (Below w.heap.size w wr))
      case atStart => exact ⟨0, by omega, rfl, ⟨fun j hj => absurd hj (Nat.not_lt_zero _)⟩, by go_simp, by simp, ⟨(by repeat (first | (with_reducible exact Below.refl _ _) | (with_reducible exact HB.out) | (with_reducible apply below_alloc) | (with_reducible apply below_drew) | (with_reducible apply pw_below_drewN) | (with_reducible refine bstep' ?_ (by assumption)) | ((with_reducible refine Below.setCell ?_ ?_ _); rotate_left; (first | (dsimp only; omega) | (simp; done) | (simp; omega) | omega))))⟩⟩
      case round =>
        obtain ⟨k, hk, rfl, HE, e0, hlw, HB⟩ := hrel
        by_cases hlt : k < bs.length
        · obtain ⟨b, off, rfl, hb, b0, b1, b2, b3⟩ := at_Bx (Kd.C_below H1.out HB.out) (k : Int) (by omega) (by omega)
          simp only [Int.toNat_natCast] at b0 b1 b2 b3
          have hw1 : w.heap.size < wr.heap.size + 1 := by omega
          have hbr : b < wr.heap.size + 1 := by omega
          have HNO := Aside0.mk (fun h : fewB (rBx bs (k : Int)) = false => few_no (p := ⟨bs, fs⟩) hlt h)
          have HGO := Aside0.mk (fun (h : fewB (rBx bs (k : Int)) = true) (j : Nat) (hj : j < k + 1) => show fewB (rBx bs j) = true by
            rcases Nat.lt_or_ge j k with h2 | h2
            · exact HE.out j h2
            · obtain rfl : j = k := by omega
              exact h)
          cases hv : validB (rBx bs (k : Int)) with
          | false =>
            have HS := Aside0.mk (show fewB (rBx bs (k : Int)) = true by unfold fewB; rw [hv]; rfl)
            go_wp2_with (first | (go_at_call 33; refine (refValid_c (rBx bs (k : Int)) _).mono ?_; rintro e w1 ⟨rfl, hb1⟩; obtain ⟨hc1, hf1, hz1⟩ := bcell hb1; (try simp only [World.size_alloc, World.size_setCell, World.size_drew] at hz1); have hs1 : wr.heap.size < w1.heap.size := (by omega); have hw1 : w.heap.size < w1.heap.size := (by omega)))
            go_roundg (gk - 1)
            case measure => omega
            case rel => exact ⟨k + 1, by omega, by go_num, ⟨HGO.out HS.out⟩, by go_simp, by omega, ⟨(by repeat (first | (with_reducible exact Below.refl _ _) | (with_reducible exact HB.out) | (with_reducible assumption) | (with_reducible apply below_alloc) | (with_reducible apply below_drew) | (with_reducible apply pw_below_drewN) | (with_reducible refine bstep' ?_ (by assumption)) | ((with_reducible refine Below.setCell ?_ ?_ _); rotate_left; (first | (dsimp only; omega) | (simp; done) | (simp; omega) | omega))))⟩⟩
          | true =>
            obtain ⟨v1, v2, v3, v4, v5, v6, v7, v8⟩ := valid_bd hv
            by_cases hx : 60 < (rBx bs (k : Int)).x.hi - (rBx bs (k : Int)).x.lo
            · have HX := Aside0.mk (HNO.out (by unfold fewB; rw [hv, show decide ((rBx bs (k : Int)).x.hi - (rBx bs (k : Int)).x.lo ≤ 60) = false from decide_eq_false (by omega)]; rfl))
              go_wp2_with (first | (go_at_call 33; refine (refValid_c (rBx bs (k : Int)) _).mono ?_; rintro e w1 ⟨rfl, hb1⟩; obtain ⟨hc1, hf1, hz1⟩ := bcell hb1; (try simp only [World.size_alloc, World.size_setCell, World.size_drew] at hz1); have hs1 : wr.heap.size < w1.heap.size := (by omega); have hw1 : w.heap.size < w1.heap.size := (by omega)))
              go_ret
              exact ⟨by rw [HX.out]; rfl, (by repeat (first | (with_reducible exact Below.refl _ _) | (with_reducible exact HB.out) | (with_reducible assumption) | (with_reducible apply below_alloc) | (with_reducible apply below_drew) | (with_reducible apply pw_below_drewN) | (with_reducible refine bstep' ?_ (by assumption)) | ((with_reducible refine Below.setCell ?_ ?_ _); rotate_left; (first | (dsimp only; omega) | (simp; done) | (simp; omega) | omega))))⟩
            · by_cases hy : 60 < (rBx bs (k : Int)).y.hi - (rBx bs (k : Int)).y.lo
              · have HX := Aside0.mk (HNO.out (by unfold fewB; rw [hv, show decide ((rBx bs (k : Int)).y.hi - (rBx bs (k : Int)).y.lo ≤ 60) = false from decide_eq_false (by omega)]; simp))
                go_wp2_with (first | (go_at_call 33; refine (refValid_c (rBx bs (k : Int)) _).mono ?_; rintro e w1 ⟨rfl, hb1⟩; obtain ⟨hc1, hf1, hz1⟩ := bcell hb1; (try simp only [World.size_alloc, World.size_setCell, World.size_drew] at hz1); have hs1 : wr.heap.size < w1.heap.size := (by omega); have hw1 : w.heap.size < w1.heap.size := (by omega)))
                go_ret
                exact ⟨by rw [HX.out]; rfl, (by repeat (first | (with_reducible exact Below.refl _ _) | (with_reducible exact HB.out) | (with_reducible assumption) | (with_reducible apply below_alloc) | (with_reducible apply below_drew) | (with_reducible apply pw_below_drewN) | (with_reducible refine bstep' ?_ (by assumption)) | ((with_reducible refine Below.setCell ?_ ?_ _); rotate_left; (first | (dsimp only; omega) | (simp; done) | (simp; omega) | omega))))⟩
              · have HS := Aside0.mk (show fewB (rBx bs (k : Int)) = true by unfold fewB; rw [hv, show decide ((rBx bs (k : Int)).x.hi - (rBx bs (k : Int)).x.lo ≤ 60) = true from decide_eq_true (by omega), show decide ((rBx bs (k : Int)).y.hi - (rBx bs (k : Int)).y.lo ≤ 60) = true from decide_eq_true (by omega)]; rfl)
                go_wp2_with (first | (go_at_call 33; refine (refValid_c (rBx bs (k : Int)) _).mono ?_; rintro e w1 ⟨rfl, hb1⟩; obtain ⟨hc1, hf1, hz1⟩ := bcell hb1; (try simp only [World.size_alloc, World.size_setCell, World.size_drew] at hz1); have hs1 : wr.heap.size < w1.heap.size := (by omega); have hw1 : w.heap.size < w1.heap.size := (by omega)))
                go_roundg (gk - 1)
                case measure => omega
                case rel => exact ⟨k + 1, by omega, by go_num, ⟨HGO.out HS.out⟩, by go_simp, by omega, ⟨(by repeat (first | (with_reducible exact Below.refl _ _) | (with_reducible exact HB.out) | (with_reducible assumption) | (with_reducible apply below_alloc) | (with_reducible apply below_drew) | (with_reducible apply pw_below_drewN) | (with_reducible refine bstep' ?_ (by assumption)) | ((with_reducible refine Below.setCell ?_ ?_ _); rotate_left; (first | (dsimp only; omega) | (simp; done) | (simp; omega) | omega))))⟩⟩
        · obtain rfl : k = bs.length := by omega
          have HX := Aside0.mk (few_yes (p := ⟨bs, fs⟩) (by dsimp only; omega) (by dsimp only; omega) HE.out)
          go_wp2_with fail
          go_ret
          exact ⟨by rw [HX.out]; rfl, HB.out⟩

set_option maxHeartbeats 800000 in
theorem lies_c (a b : Bx) (w : World) :
    Calls Try.prog 18 #[.agg #[.int .i64 a.x.lo, .int .i64 a.x.hi, .int .i64 a.y.lo, .int .i64 a.y.hi], .agg #[.int .i64 b.x.lo, .int .i64 b.x.hi, .int .i64 b.y.lo, .int .i64 b.y.hi]] w fun e w' => e = .returned (.bool (liesB a b)) ∧ Below w.heap.size w w' := by
  unfold liesB
  by_cases h1 : b.x.lo ≤ a.x.lo
  · by_cases h2 : a.x.hi ≤ b.x.hi
    · by_cases h3 : b.y.lo ≤ a.y.lo
      · go_enter Try.func18, Try.ntmps18
        go_wp2_with fail
        go_ret
        exact ⟨by simp [h1, h2, h3], (by repeat (first | (with_reducible exact Below.refl _ _) | (with_reducible exact HB.out) | (with_reducible assumption) | (with_reducible apply below_alloc) | (with_reducible apply below_drew) | (with_reducible apply pw_below_drewN) | (with_reducible refine bstep' ?_ (by assumption)) | ((with_reducible refine Below.setCell ?_ ?_ _); rotate_left; (first | (dsimp only; omega) | (simp; done) | (simp; omega) | omega))))⟩
      · go_enter Try.func18, Try.ntmps18
        go_wp2_with fail
        go_ret
        exact ⟨by simp; omega, (by repeat (first | (with_reducible exact Below.refl _ _) | (with_reducible exact HB.out) | (with_reducible assumption) | (with_reducible apply below_alloc) | (with_reducible apply below_drew) | (with_reducible apply pw_below_drewN) | (with_reducible refine bstep' ?_ (by assumption)) | ((with_reducible refine Below.setCell ?_ ?_ _); rotate_left; (first | (dsimp only; omega) | (simp; done) | (simp; omega) | omega))))⟩
    · go_enter Try.func18, Try.ntmps18
      go_wp2_with fail
      go_ret
      exact ⟨by simp; omega, (by repeat (first | (with_reducible exact Below.refl _ _) | (with_reducible exact HB.out) | (with_reducible assumption) | (with_reducible apply below_alloc) | (with_reducible apply below_drew) | (with_reducible apply pw_below_drewN) | (with_reducible refine bstep' ?_ (by assumption)) | ((with_reducible refine Below.setCell ?_ ?_ _); rotate_left; (first | (dsimp only; omega) | (simp; done) | (simp; omega) | omega))))⟩
  · go_enter Try.func18, Try.ntmps18
    go_wp2_with fail
    go_ret
    exact ⟨by simp; omega, (by repeat (first | (with_reducible exact Below.refl _ _) | (with_reducible exact HB.out) | (with_reducible assumption) | (with_reducible apply below_alloc) | (with_reducible apply below_drew) | (with_reducible apply pw_below_drewN) | (with_reducible refine bstep' ?_ (by assumption)) | ((with_reducible refine Below.setCell ?_ ?_ _); rotate_left; (first | (dsimp only; omega) | (simp; done) | (simp; omega) | omega))))⟩

theorem eq_spn (d : Nat) (w : World) (x0 y0 x1 y1 : Int) :
    (Op.equalIn (d + 2) 31 (.agg #[.int .i64 x0, .int .i64 x1]) (.agg #[.int .i64 y0, .int .i64 y1])).run Try.prog w = .ok (x0 == y0 && (x1 == y1)) w := by
  refine eqA_of Try.underlying31 (by kernel_rfl) ?_
  refine eqf_cons (by rfl) (by go_simp; rfl) (by go_simp; rfl) (by go_simp) ?_
  exact eqf_last (by rfl) (by go_simp; rfl) (by go_simp; rfl) (by go_simp)
theorem eq_bx (d : Nat) (w : World) (a b : Bx) :
    (Op.equalIn (d + 3) 42 (.agg #[.int .i64 a.x.lo, .int .i64 a.x.hi, .int .i64 a.y.lo, .int .i64 a.y.hi]) (.agg #[.int .i64 b.x.lo, .int .i64 b.x.hi, .int .i64 b.y.lo, .int .i64 b.y.hi])).run Try.prog w = .ok (decide (a = b)) w := by
  have e : decide (a = b) = ((a.x.lo == b.x.lo && (a.x.hi == b.x.hi)) && (b.y.lo == b.y.lo && (a.y.lo == b.y.lo && (a.y.hi == b.y.hi)))) := by
    obtain ⟨⟨a1, a2⟩, ⟨a3, a4⟩⟩ := a
    obtain ⟨⟨b1, b2⟩, ⟨b3, b4⟩⟩ := b
    rw [Bool.eq_iff_iff]
    simp [Bx.mk.injEq, Spn.mk.injEq]
  have e2 : decide (a = b) = ((a.x.lo == b.x.lo && (a.x.hi == b.x.hi)) && (a.y.lo == b.y.lo && (a.y.hi == b.y.hi))) := by rw [e]; simp
  rw [e2]
  refine eqA_of Try.underlying42 (by kernel_rfl) ?_
  refine eqf_cons (by rfl) (by go_simp) (by go_simp) (eq_spn d w _ _ _ _) ?_
  exact eqf_last (by rfl) (by go_simp) (by go_simp) (eq_spn d w _ _ _ _)
attribute [local go_sem high] eq_bx

set_option maxHeartbeats 1600000 in
theorem boxes_c (A1 A2 : Option Addr) (n1 n2 c1 c2 : Nat) (ls bs : List Bx) (w : World) (h1 : kBx.C w A1 n1 ls) (h2 : kBx.C w A2 n2 bs) :
    Calls Try.prog 16 #[.slice A1 n1 c1, .slice A2 n2 c2] w fun e w' => e = .returned (.bool (boxesB ls bs)) ∧ Below w.heap.size w w' := by
  have H1 := Aside0.mk h1
  have H2 := Aside0.mk h2
  obtain ⟨rfl, hn1, _⟩ := h1
  obtain ⟨rfl, hn2, _⟩ := h2
  by_cases hne : (ls.length : Int) = (bs.length : Int)
  · have hneB : ((ls.length : Int) != (bs.length : Int)) = false := by simp [hne]
    have hneB2 : ((ls.length : Int) == (bs.length : Int)) = true := by simp [hne]
    have hln : ls.length = bs.length := by omega
    have HLN := Aside0.mk hln
    clear hne
    rw [hln]
    clear hneB hneB2 hln
    generalize hL : bs.length = L at *
    have HL := Aside0.mk hL
    clear hL
    go_enter Try.func16, Try.ntmps16
    go_wp2_with fail
    go_loopg [5] L (fun m cnt wr => ∃ k : Nat, k + m = L ∧ cnt = .int .i64 k ∧ Aside0 (∀ j : Nat, j < k → rBx ls j = rBx bs j) ∧ Aside0 (Below w.heap.size w wr))
    case atStart => exact ⟨0, by omega, rfl, ⟨fun j hj => absurd hj (Nat.not_lt_zero _)⟩, ⟨Below.refl _ _⟩⟩
    case round =>
      obtain ⟨k, hk, rfl, HE, HB⟩ := hrel
      by_cases hlt : k < L
      · obtain ⟨ba, oa, rfl, hba, x0, x1, x2, x3⟩ := at_Bx (Kd.C_below H1.out HB.out) (k : Int) (by omega) (by have := HLN.out; have := HL.out; omega)
        obtain ⟨bb, ob, rfl, hbb, y0, y1, y2, y3⟩ := at_Bx (Kd.C_below H2.out HB.out) (k : Int) (by omega) (by have := HL.out; omega)
        simp only [Int.toNat_natCast] at x0 x1 x2 x3 y0 y1 y2 y3
        have HF := Aside0.mk (fun h : rBx ls (k : Int) ≠ rBx bs (k : Int) => show boxesB ls bs = false from decide_eq_false (fun e => h (by rw [e])))
        have HGO := Aside0.mk (fun (h : rBx ls (k : Int) = rBx bs (k : Int)) (j : Nat) (hj : j < k + 1) => show rBx ls j = rBx bs j by
            rcases Nat.lt_or_ge j k with h2 | h2
            · exact HE.out j h2
            · obtain rfl : j = k := by omega
              exact h)
        generalize rBx ls (k : Int) = a at *
        generalize rBx bs (k : Int) = b at *
        go_wp2_with fail
        (refine wp_region_quiet (C := fun w' => ∃ t : Later _, w' = t.w) (by kernel_rfl) (by kernel_rfl) (IsLater.drew _) ?_; (repeat (first | go_big_quiet_step (fail) | quiet_step (fail))); refine wpQuiet_nil ?_; rintro _ ⟨tq, rfl⟩)
        by_cases hE : a = b
        · have HG2 := Aside0.mk (HGO.out hE)
          subst hE
          go_wp2_with fail
          go_roundg (gk - 1)
          case measure => omega
          case rel => exact ⟨k + 1, by omega, by go_num, HG2, ⟨bstep' HB.out tq.h⟩⟩
        · have HF2 := Aside0.mk (HF.out hE)
          rw [show (!decide (a = b)) = true by simp [hE]]
          clear hE
          go_wp2_with fail
          go_ret
          exact ⟨by rw [HF2.out]; rfl, bstep' HB.out tq.h⟩
      · obtain rfl : k = L := by omega
        have HX := Aside0.mk (show boxesB ls bs = true from decide_eq_true (list_ext_rBx (HLN.out.trans HL.out.symm) (fun i hi => HE.out i (by have := HLN.out; have := HL.out; omega))))
        go_wp2_with fail
        go_ret
        exact ⟨by rw [HX.out]; rfl, HB.out⟩
  · have HC := Aside0.mk (show boxesB ls bs = false from decide_eq_false (fun e => hne (by rw [e])))
    have hneB : ((ls.length : Int) != (bs.length : Int)) = true := by simp [hne]
    go_enter Try.func16, Try.ntmps16
    go_wp2_with fail
    go_ret
    exact ⟨by rw [HC.out]; rfl, (by repeat (first | (with_reducible exact Below.refl _ _) | (with_reducible exact HB.out) | (with_reducible assumption) | (with_reducible apply below_alloc) | (with_reducible apply below_drew) | (with_reducible apply pw_below_drewN) | (with_reducible refine bstep' ?_ (by assumption)) | ((with_reducible refine Below.setCell ?_ ?_ _); rotate_left; (first | (dsimp only; omega) | (simp; done) | (simp; omega) | omega))))⟩
end Go.Proofs.Ytkkimlicabbooaa
