/-
  solution, Solve of package search.
-/
import Derived.Test.YtkkimlicabbooaaB3
import Derived.Test.YtkkimlicabbooaaPlain31
namespace Go.Proofs.Ytkkimlicabbooaa
open Go.RowKit Go.Proofs.YtkkimlicabbooaaW.PrintWords Bs
attribute [local go_sem] Later.cell? Later.frozen?
set_option linter.unusedVariables false
set_option linter.unusedSimpArgs false

set_option maxHeartbeats 3200000 in
set_option maxRecDepth 100000 in
theorem solution_c (b : Bool) (A Ao : Option Addr) (n c no co N : Nat) (xs : List Seen) (part : Int) (of_ : List Pt) (w : World) (h : kSeen.C w A n xs) (ho : kPt.C w Ao no of_) (hx : ∀ s ∈ xs, OneOk N s)
    (hof : ∀ k : Nat, k < n → (k : Int) = part → (rSeen xs k).part.length ≤ no) (hn : n ≤ 12) (hN : N ≤ 1000) :
    Calls Try.prog 50 #[.agg #[.bool b, .slice A n c], .int .i64 N, .int .i64 part, .slice Ao no co] w fun e w' => ∃ v, e = .returned v ∧ kPt.R 49 w' w.heap.size (fun _ => True) v (solutionP xs N part of_) ∧ Below w.heap.size w w' := by
  have H := Aside0.mk h
  have HO := Aside0.mk ho
  have HL := Aside0.mk h.1
  have HLO := Aside0.mk ho.1
  have HX := Aside0.mk hx
  have HOF := Aside0.mk hof
  clear h ho hx hof
  go_enter Try.func50, Try.ntmps50
  go_wp2_with ((with_reducible refine gate_dst (N := 16) rfl ?_); refine Kd.R_make kPt _ 49 rfl (N := 16) rfl 57 _ _ rfl (N : Int) rfl rfl Try.underlying57 (.agg #[.int .i64 0, .int .i64 0]) 16 infoPt rfl (by decide) (by omega) ⟨0, 0⟩ (ok := fun _ => True) (okp := fun _ => True) rfl (fun _ hk => hk) trivial (by omega) (by simp; omega) (show Below w.heap.size w _ from (by repeat (first | (with_reducible exact Below.refl _ _) | (with_reducible exact HB.out) | (with_reducible assumption) | (with_reducible apply below_alloc) | (with_reducible apply below_drew) | (with_reducible apply pw_below_drewN) | (with_reducible refine bstep' ?_ (by assumption)) | ((with_reducible refine Below.setCell ?_ ?_ _); rotate_left; (first | (dsimp only; omega) | (simp; done) | (simp; omega) | omega))))) (by simp) ?_; intro v5 w5 hv5 hb5 hg5 _; have c1 : w5.cell? ⟨w.heap.size, 1, none⟩ = some (.slice A n c) := cell_grown hg5 (by go_simp) (by simp); obtain ⟨Ag, cap, hag⟩ := Kd.R_slice hv5; simp only [List.length_replicate, Int.toNat_natCast] at hv5 hag; subst hag; have HV5 := Aside0.mk hv5; clear hv5)
  go_loopg [20] n (fun m cnt wr => ∃ k : Nat, k + m = n ∧ cnt = .int .i64 k ∧ Aside0 (kPt.R 49 wr w.heap.size (fun _ => True) (.slice Ag N cap) (solTo xs N part of_ k)) ∧ Aside0 (Below w.heap.size w wr))
  case atStart => exact ⟨0, by omega, rfl, HV5, ⟨hb5⟩⟩
  case round =>
    clear HV5 c1 hb5 hg5
    obtain ⟨k, hk, rfl, HR, HB⟩ := hrel
    by_cases hlt : k < n
    · obtain ⟨ba, off, S, a1, d1, a2, d2, a3, d3, rfl, hb, q0, hS, s0, hP, s1, s2, hE, s3, hO⟩ := at_Seen H.out k hlt
      obtain ⟨o1, o2⟩ := HX.out (rSeen xs k) (by unfold rSeen; exact mem_get (by have := HL.out; omega))
      have HPP := Aside0.mk hP
      have HOO := Aside0.mk hO
      have HPL := Aside0.mk hP.1
      have HON := Aside0.mk o1
      have HIN := Aside0.mk o2
      have HOF2 := Aside0.mk (HOF.out k hlt)
      have hbw := HB.out
      have hbws := hbw.size
      have q0 := (hbw.cell (p := ⟨ba, off + k, none⟩) hb).trans q0
      have s0 := (hbw.cell (p := ⟨S, 0, none⟩) hS).trans s0
      have s3 := (hbw.cell (p := ⟨S, 3, none⟩) hS).trans s3
      have hb' : ba < wr.heap.size := by omega
      have hS' : S < wr.heap.size := by omega
      have HTO := Aside0.mk (show solTo xs N part of_ (k + 1) = putS (rSeen xs k).part (pickOf part of_ k (rSeen xs k)) (solTo xs N part of_ k) from rfl)
      clear hbw hP hO hE s1 s2 o1 o2 HOF
      generalize solTo xs N part of_ k = out0 at *
      have key : ∀ (Al : Option Addr) (nl cl : Nat) (l : List Pt), pickOf part of_ k (rSeen xs k) = l → kPt.C w Al nl l → (rSeen xs k).part.length ≤ nl → True := fun _ _ _ _ _ _ _ => trivial
      clear key
      generalize hsn : rSeen xs k = sn at *
      clear hsn
      obtain ⟨M, hM⟩ : ∃ x, x = sn.part.length := ⟨_, rfl⟩
      rw [← hM] at s0 HPP
      have HM := Aside0.mk hM
      have hM9 : M ≤ 9223372036854775807 := HPP.out.2.1
      clear hM
      by_cases hp : (k : Int) = part
      · have hpb : ((k : Int) == part) = true := by simp [hp]
        have HPK := Aside0.mk (show pickOf part of_ k sn = of_ by unfold pickOf; rw [if_pos hp])
        have HLN := Aside0.mk (HOF2.out hp)
        clear hp
        go_wp2_with fail
        obtain ⟨wo, rfl⟩ : ∃ u, u = wr := ⟨_, rfl⟩
        obtain ⟨g1, rfl⟩ : ∃ u, u = gk := ⟨_, rfl⟩
        clear q0 s0 s3 hb' hS' hbws
        go_loopg [38] M (fun m cnt wr2 => ∃ j : Nat, j + m = M ∧ cnt = .int .i64 j ∧ Aside0 (kPt.R 49 wr2 w.heap.size (fun _ => True) (.slice Ag N cap) (putS (sn.part.take j) (of_.take j) out0)) ∧ Aside0 (Below w.heap.size w wr2))
        case atStart => exact ⟨0, by omega, rfl, ⟨by simpa [putS] using HR.out⟩, HB⟩
        case round =>
          clear HR HB
          obtain ⟨j, hj, rfl, HR, HB⟩ := hrel
          by_cases hlj : j < M
          · have hjp : j < sn.part.length := by have := HM.out; omega
            obtain ⟨bp, op, rfl, hbp, z0⟩ := at_Int (Kd.C_below HPP.out HB.out) (j : Int) (by omega) (by omega)
            obtain ⟨bl, ol, rfl, hbl, x0, x1⟩ := at_Pt (Kd.C_below HO.out HB.out) (j : Int) (by omega) (by have := HLN.out; omega)
            obtain ⟨i0, i1⟩ := HIN.out (rInt sn.part (j : Int)) (by rw [rInt_nat]; exact mem_get hjp)
            obtain ⟨q, hq⟩ := Int.eq_ofNat_of_zero_le i0
            have HST := Aside0.mk (putS_step (part := sn.part) (l := of_) (s := out0) (j := j) hjp (by have := HLN.out; have := HM.out; have := HLO.out; omega))
            rw [hq, Int.toNat_natCast] at HST
            rw [hq] at z0 i1
            simp only [Int.toNat_natCast] at z0 x0 x1
            have hln : (putS (sn.part.take j) (of_.take j) out0).length = N := (row_C HR.out).1
            generalize putS (sn.part.take j) (of_.take j) out0 = cur at *
            obtain ⟨g, cap', e1, gb, gl, _⟩ := Kd.R_form HR.out (by omega)
            obtain ⟨rfl, rfl⟩ : Ag = some ⟨g, 0, none⟩ ∧ cap = cap' := by injection e1 with a b c; exact ⟨a, c⟩
            have hfz := (R_own1 HR.out (by omega)).1
            obtain ⟨_, _, he, hgl, y0, y1⟩ := at_Pt (row_C HR.out).2 (q : Int) (by omega) (by omega)
            cases he
            simp only [Int.toNat_natCast, Nat.zero_add] at y0 y1
            obtain ⟨hr9, hg9⟩ := R_setPt HR.out q (by omega) (rPt of_ (j : Int))
            have HR9 := Aside0.mk hr9
            have HB9 := Aside0.mk (HB.out.grown hg9 HB.out.size (fun k hk => by injection hk with hk; subst hk; exact gb))
            have hqn : q < N := by omega
            have hjl : j < no := by have := HLN.out; have := HM.out; omega
            clear hr9 hg9 hq i0 i1 e1
            generalize rPt of_ (j : Int) = pj at *
            generalize rPt cur (q : Int) = pq at *
            go_wp2_with fail
            go_roundg (gk - 1)
            case measure => omega
            case rel => exact ⟨j + 1, by omega, by go_num, ⟨by rw [HST.out]; exact HR9.out⟩, HB9⟩
          · obtain rfl : j = M := by omega
            have HAL := Aside0.mk (show putS (sn.part.take j) (of_.take j) out0 = solTo xs N part of_ (k + 1) by
              rw [HTO.out, HPK.out, HM.out]
              exact putS_all (by have := HLN.out; have := HM.out; have := HLO.out; omega))
            rw [HAL.out] at HR
            go_wp2_with fail
            go_roundg (g1 - 1)
            case measure => omega
            case rel => exact ⟨k + 1, by omega, by go_num, HR, HB⟩
      · have hpb : ((k : Int) == part) = false := by simp [hp]
        have HPK := Aside0.mk (show pickOf part of_ k sn = sn.one by unfold pickOf; rw [if_neg hp])
        have HLN := HON
        clear hp
        go_wp2_with fail
        obtain ⟨wo, rfl⟩ : ∃ u, u = wr := ⟨_, rfl⟩
        obtain ⟨g1, rfl⟩ : ∃ u, u = gk := ⟨_, rfl⟩
        clear q0 s0 s3 hb' hS' hbws
        go_loopg [38] M (fun m cnt wr2 => ∃ j : Nat, j + m = M ∧ cnt = .int .i64 j ∧ Aside0 (kPt.R 49 wr2 w.heap.size (fun _ => True) (.slice Ag N cap) (putS (sn.part.take j) (sn.one.take j) out0)) ∧ Aside0 (Below w.heap.size w wr2))
        case atStart => exact ⟨0, by omega, rfl, ⟨by simpa [putS] using HR.out⟩, HB⟩
        case round =>
          clear HR HB
          obtain ⟨j, hj, rfl, HR, HB⟩ := hrel
          by_cases hlj : j < M
          · have hjp : j < sn.part.length := by have := HM.out; omega
            obtain ⟨bp, op, rfl, hbp, z0⟩ := at_Int (Kd.C_below HPP.out HB.out) (j : Int) (by omega) (by omega)
            obtain ⟨bl, ol, rfl, hbl, x0, x1⟩ := at_Pt (Kd.C_below HOO.out HB.out) (j : Int) (by omega) (by have := HLN.out; omega)
            obtain ⟨i0, i1⟩ := HIN.out (rInt sn.part (j : Int)) (by rw [rInt_nat]; exact mem_get hjp)
            obtain ⟨q, hq⟩ := Int.eq_ofNat_of_zero_le i0
            have HST := Aside0.mk (putS_step (part := sn.part) (l := sn.one) (s := out0) (j := j) hjp (by have := HLN.out; have := HM.out; have := HM.out; omega))
            rw [hq, Int.toNat_natCast] at HST
            rw [hq] at z0 i1
            simp only [Int.toNat_natCast] at z0 x0 x1
            have hln : (putS (sn.part.take j) (sn.one.take j) out0).length = N := (row_C HR.out).1
            generalize putS (sn.part.take j) (sn.one.take j) out0 = cur at *
            obtain ⟨g, cap', e1, gb, gl, _⟩ := Kd.R_form HR.out (by omega)
            obtain ⟨rfl, rfl⟩ : Ag = some ⟨g, 0, none⟩ ∧ cap = cap' := by injection e1 with a b c; exact ⟨a, c⟩
            have hfz := (R_own1 HR.out (by omega)).1
            obtain ⟨_, _, he, hgl, y0, y1⟩ := at_Pt (row_C HR.out).2 (q : Int) (by omega) (by omega)
            cases he
            simp only [Int.toNat_natCast, Nat.zero_add] at y0 y1
            obtain ⟨hr9, hg9⟩ := R_setPt HR.out q (by omega) (rPt sn.one (j : Int))
            have HR9 := Aside0.mk hr9
            have HB9 := Aside0.mk (HB.out.grown hg9 HB.out.size (fun k hk => by injection hk with hk; subst hk; exact gb))
            have hqn : q < N := by omega
            have hjl : j < sn.one.length := by have := HLN.out; have := HM.out; omega
            clear hr9 hg9 hq i0 i1 e1
            generalize rPt sn.one (j : Int) = pj at *
            generalize rPt cur (q : Int) = pq at *
            go_wp2_with fail
            go_roundg (gk - 1)
            case measure => omega
            case rel => exact ⟨j + 1, by omega, by go_num, ⟨by rw [HST.out]; exact HR9.out⟩, HB9⟩
          · obtain rfl : j = M := by omega
            have HAL := Aside0.mk (show putS (sn.part.take j) (sn.one.take j) out0 = solTo xs N part of_ (k + 1) by
              rw [HTO.out, HPK.out, HM.out]
              exact putS_all (by have := HLN.out; have := HM.out; have := HM.out; omega))
            rw [HAL.out] at HR
            go_wp2_with fail
            go_roundg (g1 - 1)
            case measure => omega
            case rel => exact ⟨k + 1, by omega, by go_num, HR, HB⟩
    · obtain rfl : k = n := by omega
      have HF := Aside0.mk (show solutionP xs N part of_ = solTo xs N part of_ k by unfold solutionP; rw [HL.out])
      go_wp2_with fail
      go_ret
      exact ⟨_, rfl, by rw [HF.out]; exact HR.out, HB.out⟩

set_option maxHeartbeats 3200000 in
set_option maxRecDepth 100000 in
theorem solve_c (A1 A2 : Option Addr) (n nf c1 c2 : Nat) (bs : List Bx) (fs : List Fct) (w : World) (h1 : kBx.C w A1 n bs) (h2 : kFct.C w A2 nf fs) :
    Calls Try.prog 24 #[.agg #[.slice A1 n c1, .slice A2 nf c2]] w fun e w' => ∃ v, e = .returned (.tuple #[v, .int .i64 (solveP ⟨bs, fs⟩).2]) ∧ kPt.R 49 w' w.heap.size (fun _ => True) v (solveP ⟨bs, fs⟩).1 ∧ Below w.heap.size w w' := by
  have H1 := Aside0.mk h1
  have H2 := Aside0.mk h2
  have HL1 := Aside0.mk h1.1
  clear h1 h2
  go_enter Try.func24, Try.ntmps24
  go_wp2_with fail
  generalize hW : (w.alloc _ : World) = W
  have hP : Cls W w.heap.size #[.slice A1 n c1, .slice A2 nf c2] 25 := by subst hW; exact (by repeat (first | (with_reducible assumption) | (exact Cls.new3 (by first | (simp; done) | (simp; omega) | omega)) | (with_reducible refine Cls.old ?_) | (refine Cls.set ?_ (by first | (dsimp only; omega) | (simp; omega) | simp)) | (with_reducible refine Cls.drew ?_) | (with_reducible refine Cls.below ?_ (by assumption))))
  have HB := Aside0.mk (show Below w.heap.size w W by subst hW; exact (by repeat (first | (with_reducible exact Below.refl _ _) | (with_reducible exact HB.out) | (with_reducible assumption) | (with_reducible apply below_alloc) | (with_reducible apply below_drew) | (with_reducible apply pw_below_drewN) | (with_reducible refine bstep' ?_ (by assumption)) | ((with_reducible refine Below.setCell ?_ ?_ _); rotate_left; (first | (dsimp only; omega) | (simp; done) | (simp; omega) | omega)))))
  clear hW
  refine (solved_c _ _ n nf _ _ bs fs _ (Kd.C_below H1.out HB.out) (Kd.C_below H2.out HB.out)).mono ?_
  rintro e w1 ⟨v, rfl, hv, hb⟩
  (have HB := Aside0.mk (bstep' HB.out hb); have hP := Cls.below hP hb; (try clear e0 e1); have e0 := hP.cell 0 _ rfl; have e1 := hP.cell 1 _ rfl; clear hb)
  obtain ⟨A3, c3, rfl⟩ := Kd.R_slice hv
  have HR := Aside0.mk (row_C hv).2
  clear hv
  by_cases he : (solvedP ⟨bs, fs⟩).err = 0
  · obtain ⟨hc, hs⟩ := solved_ok he
    have heb : ((solvedP ⟨bs, fs⟩).err != 0) = false := by simp [he]
    have heb2 : ((solvedP ⟨bs, fs⟩).err == 0) = true := by simp [he]
    cases hE : (solvedP ⟨bs, fs⟩).empty with
    | true =>
      have HS := Aside0.mk (show solveP ⟨bs, fs⟩ = ([], 9) by unfold solveP; rw [if_pos he, if_pos hE])
      clear he hc hs hE
      go_wp2_with fail
      go_ret2
      exact ⟨.slice none 0 0, by rw [HS.out]; rfl, by rw [HS.out]; exact Kd.R_nil _ _ _ _ _, (by repeat (first | (with_reducible exact Below.refl _ _) | (with_reducible exact HB.out) | (with_reducible assumption) | (with_reducible apply below_alloc) | (with_reducible apply below_drew) | (with_reducible apply pw_below_drewN) | (with_reducible refine bstep' ?_ (by assumption)) | ((with_reducible refine Below.setCell ?_ ?_ _); rotate_left; (first | (dsimp only; omega) | (simp; done) | (simp; omega) | omega))))⟩
    | false =>
      have HS := Aside0.mk (show solveP ⟨bs, fs⟩ = (solutionP (solvedP ⟨bs, fs⟩).parts bs.length (-1) [], 0) by unfold solveP; rw [if_pos he, if_neg (by rw [hE]; simp)])
      have HOO := Aside0.mk (solved_one he hE)
      have hlen : (solvedP ⟨bs, fs⟩).parts.length ≤ 12 := by rw [hs]; have := find_len ⟨bs, fs⟩; have := (check_valid hc).1; dsimp only at *; omega
      have hn12 : n ≤ 12 := by have := (check_valid hc).1; have := HL1.out; omega
      clear he hc hs hE
      generalize (solvedP ⟨bs, fs⟩).parts = xs at *
      obtain ⟨L, hL⟩ : ∃ x, x = xs.length := ⟨_, rfl⟩
      rw [← hL] at HR hlen ⊢
      clear hL
      have hl0 := hP.lt
      go_wp2_with fail
      have HB2 := Aside0.mk (show Below w.heap.size w (w1.alloc (.cells #[.bool false, .slice A3 L c3] 72)) from (by repeat (first | (with_reducible exact Below.refl _ _) | (with_reducible exact HB.out) | (with_reducible assumption) | (with_reducible apply below_alloc) | (with_reducible apply below_drew) | (with_reducible apply pw_below_drewN) | (with_reducible refine bstep' ?_ (by assumption)) | ((with_reducible refine Below.setCell ?_ ?_ _); rotate_left; (first | (dsimp only; omega) | (simp; done) | (simp; omega) | omega)))))
      have HR2 := Aside0.mk (Kd.C_below HR.out (below_alloc (Below.refl w1.heap.size w1) (.cells #[.bool false, .slice A3 L c3] 72)))
      generalize (w1.alloc (.cells #[.bool false, .slice A3 L c3] 72)) = w2 at *
      refine (solution_c false A3 none L c3 0 0 n xs (-1) [] _ HR2.out ⟨rfl, by omega, fun h => by omega⟩ (by rw [← HL1.out]; exact HOO.out) (fun k _ h => by omega) hlen (by omega)).mono ?_
      rintro e w3 ⟨v, rfl, hv, hb⟩
      have HV := Aside0.mk (Kd.R_lower hv HB2.out.size)
      have HB3 := Aside0.mk (bstep' HB2.out hb)
      clear hv hb e0 e1 hl0 hP
      go_wp2_with fail
      go_ret2
      exact ⟨_, by rw [HS.out]; rfl, by rw [HS.out, HL1.out]; exact HV.out, HB3.out⟩
  · have heb : ((solvedP ⟨bs, fs⟩).err != 0) = true := by simp [he]
    have heb2 : ((solvedP ⟨bs, fs⟩).err == 0) = false := by simp [he]
    have HS := Aside0.mk (show solveP ⟨bs, fs⟩ = ([], (solvedP ⟨bs, fs⟩).err) by unfold solveP; rw [if_neg he])
    clear he
    go_wp2_with fail
    go_ret2
    exact ⟨.slice none 0 0, by rw [HS.out]; rfl, by rw [HS.out]; exact Kd.R_nil _ _ _ _ _, (by repeat (first | (with_reducible exact Below.refl _ _) | (with_reducible exact HB.out) | (with_reducible assumption) | (with_reducible apply below_alloc) | (with_reducible apply below_drew) | (with_reducible apply pw_below_drewN) | (with_reducible refine bstep' ?_ (by assumption)) | ((with_reducible refine Below.setCell ?_ ?_ _); rotate_left; (first | (dsimp only; omega) | (simp; done) | (simp; omega) | omega))))⟩
end Go.Proofs.Ytkkimlicabbooaa
