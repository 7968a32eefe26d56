/-
  SearchMinimal, walked.
-/
import Derived.Test.YtkkimlicabbooaaA63
import Derived.Test.YtkkimlicabbooaaPlain32
namespace Go.Proofs.Ytkkimlicabbooaa
open Go.RowKit Go.Proofs.YtkkimlicabbooaaW.PrintWords Bs
attribute [local go_sem] Later.cell? Later.frozen?
set_option linter.unusedVariables false
set_option linter.unusedSimpArgs false

theorem coreGo_len {p : Prob} : ∀ (todo left : List Int), (coreGo p todo left).1.length ≤ left.length
  | [], left => by unfold coreGo; exact Nat.le_refl _
  | id :: r, left => by
    unfold coreGo
    split
    · refine Nat.le_trans (coreGo_len r _) ?_
      split
      · exact others_len _ _
      · exact Nat.le_refl _
    · simp
theorem core_len (p : Prob) : (coreP p).1.length ≤ p.facts.length := by
  have h : (idsP p).length ≤ p.facts.length := by
    unfold idsP
    refine Nat.le_trans (compactI_len _) ?_
    rw [sortI_length]
    exact Nat.le_trans (List.length_filter_le _ _) (by simp)
  unfold coreP
  split
  · split
    · exact Nat.le_trans (coreGo_len _ _) h
    · simp
  · simp
/-- One number of a row, as a row of its own. -/
theorem C_one {w : World} {b o n : Nat} {l : List Int} (h : kInt.C w (some ⟨b, o, none⟩) n l) {k : Nat} (hk : k < n) : kInt.C w (some ⟨b, o + k, none⟩) 1 [rInt l (k : Int)] := by
  obtain ⟨_, _, he, hb, z0⟩ := at_Int h (k : Int) (by omega) (by omega)
  cases he
  simp only [Int.toNat_natCast] at z0
  refine ⟨rfl, by omega, fun _ => ⟨_, rfl, fun j p hj => ?_⟩⟩
  rcases j with _ | j
  · simp at hj
    subst hj
    refine ⟨[.int .i64 (rInt l (k : Int))], rfl, rfl, fun i u hu => ?_⟩
    rcases i with _ | i
    · simp at hu
      subst hu
      rw [Go.WideShapes.add_plain]
      simpa using z0
    · simp at hu
  · simp at hj
theorem z_alloc {W w6 : World} {cs : Array Value} {t : Nat} (h : Below (W.alloc (.cells cs t)).heap.size (W.alloc (.cells cs t)) w6) : Cls w6 W.heap.size cs t := Cls.below (Cls.new3 rfl) h
theorem z_alloc1 {W w6 : World} {cs : Array Value} {t : Nat} (h : Below (W.alloc (.cells cs t)).drew.heap.size (W.alloc (.cells cs t)).drew w6) : Cls w6 W.heap.size cs t := Cls.below (Cls.drew (Cls.new3 rfl)) h
theorem Cls.frozen {w : World} {b : Nat} {cs : Array Value} {t : Nat} (h : Cls w b cs t) (o : Nat) : w.frozen? ⟨b, o, none⟩ = false := frozen_ty ⟨cs, h, rfl⟩ o
theorem fin_err {x : Int} (h : x = 0 ∨ x = 2) : ((x != 0) = false) ∨ ((x != 0) = true ∧ (x != 2) = false) := by
  rcases h with rfl | rfl
  · exact .inl rfl
  · exact .inr ⟨rfl, rfl⟩

set_option maxHeartbeats 6400000 in
set_option maxRecDepth 100000 in
theorem searchMinimal_c (A1 A2 : Option Addr) (n nf c1 c2 : Nat) (bs : List Bx) (fs : List Fct) (w : World) (h1 : kBx.C w A1 n bs) (h2 : kFct.C w A2 nf fs) :
    Calls Try.prog 7 #[.agg #[.slice A1 n c1, .slice A2 nf c2]] w fun e w' => e = .returned (.bool true) ∧ Below w.heap.size w w' := by
  have H1 := Aside0.mk h1
  have H2 := Aside0.mk h2
  have HL2 := Aside0.mk h2.1
  clear h1 h2
  go_enter Try.func7, Try.ntmps7
  go_wp2_with fail
  generalize hW : (w.alloc _ : World) = W
  have hP : Cls W w.heap.size #[.slice A1 n c1, .slice A2 nf c2] 25 := by subst hW; exact (by repeat (first | (with_reducible assumption) | (exact Cls.new3 (by first | (simp; done) | (simp; omega) | omega)) | (with_reducible refine Cls.old ?_) | (refine Cls.set ?_ (by first | (dsimp only; omega) | (simp; omega) | simp)) | (with_reducible refine Cls.drew ?_) | (with_reducible refine Cls.below ?_ (by assumption))))
  have HB := Aside0.mk (show Below w.heap.size w W by subst hW; exact (by repeat (first | (with_reducible exact Below.refl _ _) | (with_reducible exact HB.out) | (with_reducible assumption) | (with_reducible apply below_alloc) | (with_reducible apply below_drew) | (with_reducible apply pw_below_drewN) | (with_reducible refine bstep' ?_ (by assumption)) | ((with_reducible refine Below.setCell ?_ ?_ _); rotate_left; (first | (dsimp only; omega) | (simp; done) | (simp; omega) | omega)))))
  clear hW
  refine (head_c _).mono ?_
  rintro e w1 ⟨rfl, hb⟩
  (have HB := Aside0.mk (bstep' HB.out hb); have hP := Cls.below hP hb; (try clear e0 e1); have e0 := hP.cell 0 _ rfl; have e1 := hP.cell 1 _ rfl; clear hb)
  go_wp2_with fail
  refine (few_c A1 A2 n nf c1 c2 bs fs _ (Kd.C_below H1.out HB.out) (Kd.C_below H2.out HB.out)).mono ?_
  rintro e w2 ⟨rfl, hb⟩
  (have HB := Aside0.mk (bstep' HB.out hb); have hP := Cls.below hP hb; (try clear e0 e1); have e0 := hP.cell 0 _ rfl; have e1 := hP.cell 1 _ rfl; clear hb)
  cases hfew : fewP ⟨bs, fs⟩ with
  | false =>
    go_wp2_with fail
    go_ret
    exact ⟨rfl, HB.out⟩
  | true =>
    clear hfew
    by_cases h4 : (4 : Int) < (n : Int)
    · go_wp2_with fail
      go_ret
      exact ⟨rfl, HB.out⟩
    · by_cases h10 : (10 : Int) < (nf : Int)
      · go_wp2_with fail
        go_ret
        exact ⟨rfl, HB.out⟩
      · go_wp2_with fail
        refine (core_c A1 A2 n nf c1 c2 bs fs _ (Kd.C_below H1.out HB.out) (Kd.C_below H2.out HB.out) (by omega)).mono ?_
        rintro e w3 ⟨v, rfl, hv, hb⟩
        (have HB := Aside0.mk (bstep' HB.out hb); have hP := Cls.below hP hb; (try clear e0 e1); have e0 := hP.cell 0 _ rfl; have e1 := hP.cell 1 _ rfl; clear hb)
        obtain ⟨AL, cl, rfl⟩ := Kd.R_slice hv
        have HLR := Aside0.mk (row_C hv).2
        have HCAP := Aside0.mk (Kd.R_reads' hv).2.1
        have hlen : (coreP ⟨bs, fs⟩).1.length ≤ 10 := by have := core_len ⟨bs, fs⟩; have := HL2.out; dsimp only at *; omega
        clear hv
        by_cases hE : (coreP ⟨bs, fs⟩).2 = 0
        · obtain ⟨hc, m1, m2⟩ := minimal_law hE
          have HM1 := Aside0.mk m1
          have HM2 := Aside0.mk m2
          have HC := Aside0.mk hc
          have HCQ := Aside0.mk (check_pick hc (keepP (coreP ⟨bs, fs⟩).1))
          clear m1 m2 hc
          generalize (coreP ⟨bs, fs⟩).1 = l at *
          generalize (coreP ⟨bs, fs⟩).2 = E at *
          subst hE
          obtain ⟨L, hL⟩ : ∃ x, x = l.length := ⟨_, rfl⟩
          rw [← hL] at HLR hlen HCAP ⊢
          have HLN := Aside0.mk hL
          clear hL
          go_wp2_with fail
          refine (only_c A1 A2 AL n nf L c1 c2 cl bs fs l _ (Kd.C_below H1.out HB.out) (Kd.C_below H2.out HB.out) HLR.out (by omega)).mono ?_
          have ho : onlyP ⟨bs, fs⟩ l = (pickP ⟨bs, fs⟩ (keepP l), 0) := by unfold onlyP; rw [if_pos HC.out]
          rw [ho]
          rintro e w4 ⟨v1, v2, rfl, hv1, hv2, hb⟩
          (have HB := Aside0.mk (bstep' HB.out hb); have hP := Cls.below hP hb; have HLR := Aside0.mk (Kd.C_below HLR.out hb); (try clear e0 e1); have e0 := hP.cell 0 _ rfl; have e1 := hP.cell 1 _ rfl; clear hb)
          obtain ⟨AX1, cx1, rfl⟩ := Kd.R_slice hv1
          obtain ⟨AX2, cx2, rfl⟩ := Kd.R_slice hv2
          have HQ1 := Aside0.mk (row_C hv1).2
          have HQ2 := Aside0.mk (row_C hv2).2
          clear hv1 hv2 ho
          obtain ⟨q, hq⟩ : ∃ q, q = pickP ⟨bs, fs⟩ (keepP l) := ⟨_, rfl⟩
          have HM1 := Aside0.mk (show (solveP q).2 = 9 by rw [hq]; exact HM1.out)
          have HM2 := Aside0.mk (show ∀ i : Nat, i < l.length → (solveP (pickP q (fun n => !hasP [rInt l i] n))).2 = 0 ∨ (solveP (pickP q (fun n => !hasP [rInt l i] n))).2 = 2 by rw [hq]; exact HM2.out)
          have HCQ := Aside0.mk (show checkP q = 0 by rw [hq]; exact HCQ.out)
          have HQ1 := Aside0.mk (show kBx.C w4 AX1 q.boxes.length q.boxes by rw [hq]; exact HQ1.out)
          have HQ2 := Aside0.mk (show kFct.C w4 AX2 q.facts.length q.facts by rw [hq]; exact HQ2.out)
          dsimp only
          rw [← hq]
          clear hq
          obtain ⟨qb, qf⟩ := q
          dsimp only at HQ1 HQ2 ⊢
          generalize qb.length = nb at *
          generalize qf.length = nqf at *
          have hl0 := hP.lt
          go_wp2_with fail
          clear hl0
          generalize hW : (w4.alloc _ : World) = W4
          have hQ : Cls W4 w4.heap.size #[.slice AX1 nb cx1, .slice AX2 nqf cx2] 25 := by subst hW; exact (by repeat (first | (with_reducible assumption) | (exact Cls.new3 (by first | (simp; done) | (simp; omega) | omega)) | (with_reducible refine Cls.old ?_) | (refine Cls.set ?_ (by first | (dsimp only; omega) | (simp; omega) | simp)) | (with_reducible refine Cls.drew ?_) | (with_reducible refine Cls.below ?_ (by assumption))))
          have hb : Below w4.heap.size w4 W4 := by subst hW; exact (by repeat (first | (with_reducible exact Below.refl _ _) | (with_reducible exact HB.out) | (with_reducible assumption) | (with_reducible apply below_alloc) | (with_reducible apply below_drew) | (with_reducible apply pw_below_drewN) | (with_reducible refine bstep' ?_ (by assumption)) | ((with_reducible refine Below.setCell ?_ ?_ _); rotate_left; (first | (dsimp only; omega) | (simp; done) | (simp; omega) | omega))))
          clear hW hP e0 e1
          have HB := Aside0.mk (bstep' HB.out hb)
          have HLR := Aside0.mk (Kd.C_below HLR.out hb)
          have HQ1 := Aside0.mk (Kd.C_below HQ1.out hb)
          have HQ2 := Aside0.mk (Kd.C_below HQ2.out hb)
          clear hb
          have q0 := hQ.cell 0 _ rfl
          have q1 := hQ.cell 1 _ rfl
          refine (solve_c AX1 AX2 nb nqf cx1 cx2 qb qf _ HQ1.out HQ2.out).mono ?_
          rw [HM1.out]
          rintro e w5 ⟨v, rfl, hv, hb⟩
          (have HB := Aside0.mk (bstep' HB.out hb); have hQ := Cls.below hQ hb; have HLR := Aside0.mk (Kd.C_below HLR.out hb); have HQ1 := Aside0.mk (Kd.C_below HQ1.out hb); have HQ2 := Aside0.mk (Kd.C_below HQ2.out hb); (try clear q0 q1); have q0 := hQ.cell 0 _ rfl; have q1 := hQ.cell 1 _ rfl; clear hb)
          obtain ⟨AS, cs, rfl⟩ := Kd.R_slice hv
          clear hv
          generalize (solveP ⟨qb, qf⟩).1.length = ns at *
          go_wp2_with fail
          have HQ0 := Aside0.mk hQ
          have HBQ := HB
          have hbq := hQ.lt
          clear q0 q1 hQ
          have hLle : L ≤ 10 := hlen
          go_loopg [10] L (fun m cnt wr => ∃ k : Nat, k + m = L ∧ cnt = .int .i64 k ∧ Aside0 (Below w5.heap.size w5 wr))
          case atStart => exact ⟨0, by omega, rfl, ⟨Below.refl _ _⟩⟩
          case round =>
            obtain ⟨k, hk, rfl, HK⟩ := hrel
            have hQ := Cls.below HQ0.out HK.out
            have q0 := hQ.cell 0 _ rfl
            have q1 := hQ.cell 1 _ rfl
            have hql := hQ.lt
            by_cases hlt : k < L
            · obtain ⟨bl, ol, rfl, hbl, z0⟩ := at_Int HLR.out (k : Int) (by omega) (by omega)
              have HS1 := Aside0.mk (C_one HLR.out hlt)
              have HME := Aside0.mk (fin_err (HM2.out k (by have := HLN.out; omega)))
              have hwo : withoutP ⟨qb, qf⟩ [rInt l (k : Int)] = (pickP ⟨qb, qf⟩ (fun n => !hasP [rInt l (k : Int)] n), 0) := by unfold withoutP; rw [if_pos HCQ.out]
              have HWO := Aside0.mk hwo
              clear hwo z0
              generalize hr : pickP ⟨qb, qf⟩ (fun n => !hasP [rInt l (k : Int)] n) = r at *
              clear hr
              obtain ⟨rb, rf⟩ := r
              have hkc : k + 1 ≤ L := hlt
              have hkc2 : k + 1 ≤ cl := Nat.le_trans hlt HCAP.out
              have hk0 : (0 : Int) ≤ (k : Int) := by omega
              have hk1 : (k : Int) ≤ (k : Int) + 1 := by omega
              have hk2 : (k : Int) + 1 ≤ (cl : Int) := by omega
              have hk3 : (k : Int) ≤ (cl : Int) := by omega
              have hk4 : ¬ cl = k := by omega
              have hk5 : k ≤ cl := by omega
              have hk6 : k < cl := by omega
              have hwr : IntKind.i64.wrap ((k : Int) + 1) = ((k + 1 : Nat) : Int) := by rw [IntKind.wrap_i64]; omega
              go_wp2_with fail
              go_cut [11, 12] (fun p e W1 => ∃ bR AR1 AR2 cr1 cr2, p = .pointer (some ⟨bR, 0, none⟩) ∧ e = .int .i64 0 ∧ W1.cell? ⟨bR, 0, none⟩ = some (.slice AR1 rb.length cr1) ∧ W1.cell? ⟨bR, 1, none⟩ = some (.slice AR2 rf.length cr2) ∧ Aside0 (kBx.C W1 AR1 rb.length rb) ∧ Aside0 (kFct.C W1 AR2 rf.length rf) ∧ Aside0 (Below wr.heap.size wr W1))
              case first =>
                go_region_held3 (fun w' => (∀ b o, b < wr.heap.size → w'.cell? ⟨b, o, none⟩ = wr.cell? ⟨b, o, none⟩) ∧ (∀ b o, b < wr.heap.size → w'.frozen? ⟨b, o, none⟩ = wr.frozen? ⟨b, o, none⟩) ∧ Below wr.heap.size wr w') (first | (go_split_ands; exact S_of_below (by repeat (first | (with_reducible exact Below.refl _ _) | (with_reducible exact HB.out) | (with_reducible assumption) | (with_reducible apply below_alloc) | (with_reducible apply below_drew) | (with_reducible apply pw_below_drewN) | (with_reducible refine bstep' ?_ (by assumption)) | ((with_reducible refine Below.setCell ?_ ?_ _); rotate_left; (first | (dsimp only; omega) | (simp; done) | (simp; omega) | omega)))))) ((first | (go_at_call 25; go_must (refine (without_c AX1 AX2 (some ⟨bl, ol + k, none⟩) nb nqf 1 cx1 cx2 _ qb qf [rInt l (k : Int)] _ (Kd.C_below HQ1.out (bstep' HK.out (by repeat (first | (with_reducible exact Below.refl _ _) | (with_reducible exact HB.out) | (with_reducible assumption) | (with_reducible apply below_alloc) | (with_reducible apply below_drew) | (with_reducible apply pw_below_drewN) | (with_reducible refine bstep' ?_ (by assumption)) | ((with_reducible refine Below.setCell ?_ ?_ _); rotate_left; (first | (dsimp only; omega) | (simp; done) | (simp; omega) | omega)))))) (Kd.C_below HQ2.out (bstep' HK.out (by repeat (first | (with_reducible exact Below.refl _ _) | (with_reducible exact HB.out) | (with_reducible assumption) | (with_reducible apply below_alloc) | (with_reducible apply below_drew) | (with_reducible apply pw_below_drewN) | (with_reducible refine bstep' ?_ (by assumption)) | ((with_reducible refine Below.setCell ?_ ?_ _); rotate_left; (first | (dsimp only; omega) | (simp; done) | (simp; omega) | omega)))))) (Kd.C_below HS1.out (bstep' HK.out (by repeat (first | (with_reducible exact Below.refl _ _) | (with_reducible exact HB.out) | (with_reducible assumption) | (with_reducible apply below_alloc) | (with_reducible apply below_drew) | (with_reducible apply pw_below_drewN) | (with_reducible refine bstep' ?_ (by assumption)) | ((with_reducible refine Below.setCell ?_ ?_ _); rotate_left; (first | (dsimp only; omega) | (simp; done) | (simp; omega) | omega)))))) (by omega)).mono ?_; rw [HWO.out]; rintro e w6 ⟨v1, v2, rfl, hv1, hv2, hb6⟩; obtain ⟨AR1, cr1, rfl⟩ := Kd.R_slice hv1; obtain ⟨AR2, cr2, rfl⟩ := Kd.R_slice hv2; have HR1 := Aside0.mk hv1; have HR2 := Aside0.mk hv2; clear hv1 hv2; have hs6 := hb6.size; (first | (have z := z_alloc hb6) | (have z := z_alloc1 hb6) | skip); (first | (have z9 := z.cell 0 _ rfl; have z8 := z.cell 1 _ rfl; have z7 := z.frozen) | skip)))))
                all_goals (go_wp2_with fail)
                all_goals go_meet
                · exact ⟨_, AR1, AR2, cr1, cr2, rfl, rfl, by go_simp, by go_simp, ⟨Kd.C_below (row_C HR1.out).2 (below_alloc (Below.refl _ _) _)⟩, ⟨Kd.C_below (row_C HR2.out).2 (below_alloc (Below.refl _ _) _)⟩, ⟨(by repeat (first | (with_reducible exact Below.refl _ _) | (with_reducible exact HB.out) | (with_reducible assumption) | (with_reducible apply below_alloc) | (with_reducible apply below_drew) | (with_reducible apply pw_below_drewN) | (with_reducible refine bstep' ?_ (by assumption)) | ((with_reducible refine Below.setCell ?_ ?_ _); rotate_left; (first | (dsimp only; omega) | (simp; done) | (simp; omega) | omega))))⟩⟩
                · have hT : Ty w6 wr.heap.size 25 2 := ⟨_, z, rfl⟩
                  exact ⟨_, AR1, AR2, cr1, cr2, rfl, rfl, by go_simp, by go_simp, ⟨(row_C (R_setTy (R_setTy HR1.out hT pickB_types 0 _) hT.set pickB_types 1 _)).2⟩, ⟨(row_C (R_setTy (R_setTy HR2.out hT withR_types 0 _) hT.set withR_types 1 _)).2⟩, ⟨(by repeat (first | (with_reducible exact Below.refl _ _) | (with_reducible exact HB.out) | (with_reducible assumption) | (with_reducible apply below_alloc) | (with_reducible apply below_drew) | (with_reducible apply pw_below_drewN) | (with_reducible refine bstep' ?_ (by assumption)) | ((with_reducible refine Below.setCell ?_ ?_ _); rotate_left; (first | (dsimp only; omega) | (simp; done) | (simp; omega) | omega))))⟩⟩
              case rest =>
                obtain ⟨bR, AR1, AR2, cr1, cr2, rfl, rfl, r0, r1, HR1, HR2, HBC⟩ := hcut
                have hrl := cell_lt r0
                go_wp2_with fail
                refine (solve_c AR1 AR2 rb.length rf.length cr1 cr2 rb rf _ HR1.out HR2.out).mono ?_
                rintro e w7 ⟨v, rfl, hv, hb⟩
                have HK7 := Aside0.mk (bstep' HK.out (bstep' HBC.out hb))
                obtain ⟨AT, ct, rfl⟩ := Kd.R_slice hv
                have hme := HME.out
                clear hv hb r0 r1 q0 q1 hQ
                generalize (solveP ⟨rb, rf⟩).1.length = nt at *
                generalize (solveP ⟨rb, rf⟩).2 = J at *
                rcases hme with hj | ⟨hj, hj2⟩
                all_goals (go_wp2_with fail)
                all_goals (go_roundg (gk - 1))
                all_goals (first | (case measure => omega) | skip)
                all_goals exact ⟨k + 1, by omega, by go_num, HK7⟩
            · go_wp2_with fail
              go_ret
              exact ⟨rfl, bstep' HB.out HK.out⟩
        · have hEb : ((coreP ⟨bs, fs⟩).2 != 0) = true := by simp [hE]
          have hl0 := core_nil hE
          rw [hl0]
          clear hlen HLR
          generalize (coreP ⟨bs, fs⟩).2 = E at *
          clear hl0
          go_wp2_with fail
          go_ret
          exact ⟨rfl, HB.out⟩
end Go.Proofs.Ytkkimlicabbooaa
