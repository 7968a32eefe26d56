/-
  SearchMoved, walked.
-/
import Derived.Test.YtkkimlicabbooaaA61
namespace Go.Proofs.Ytkkimlicabbooaa
open Go.RowKit Go.Proofs.YtkkimlicabbooaaW.PrintWords Bs
attribute [local go_sem] Later.cell? Later.frozen?
set_option linter.unusedVariables false
set_option linter.unusedSimpArgs false

theorem run_field0 (A : Option Addr) (n c : Nat) (x : Value) (w : World) : (Instr.field 25 (.agg #[.slice A n c, x]) 0).run Try.prog w = .ok (.slice A n c) w := by
  unfold Instr.field
  simp only [Sem.run_bind, run_underlying Try.underlying25, Result.andThen_ok]
  go_simp
  simp [asAgg]
attribute [local go_sem] run_field0
theorem mild_sub {l bs : List Bx} (h : SubL l bs) (hs : ∀ k : Nat, k < bs.length → smallB (rBx bs k) = true) : Mild l := by
  intro k hk
  obtain ⟨s1, s2, s3, s4, s5, s6, s7, s8⟩ := sides_sub h hs (k : Int) (by omega) (by omega)
  omega
theorem mild_nil : Mild [] := fun k hk => absurd hk (Nat.not_lt_zero _)
theorem mild_narrow {p : Prob} (hc : checkP p = 0) : Mild (narrowE p).1 := by
  obtain ⟨_, _, h3, _⟩ := check_zero hc
  by_cases h : (narrowE p).2 = 0
  · exact mild_sub (narrowE_sub h) h3
  · rw [narrowE_nil h]; exact mild_nil
theorem hull_nil {p : Prob} (h : (hullP p).2 ≠ 0) : (hullP p).1 = [] := by
  unfold hullP at h ⊢
  dsimp only at h ⊢
  split
  · rename_i h1
    rw [if_pos h1] at h
    split
    · rfl
    · rename_i h2; rw [if_neg h2] at h; exact absurd rfl h
  · rfl
theorem mild_hull {p : Prob} (hc : checkP p = 0) : Mild (hullP p).1 := by
  obtain ⟨_, _, h3, _⟩ := check_zero hc
  by_cases h : (hullP p).2 = 0
  · obtain ⟨_, _, _, h1, h2⟩ := hull_ok h
    refine mild_sub (bs := p.boxes) ⟨h1, fun i hi => ?_⟩ h3
    rw [h1] at hi
    have hh := h2 i hi
    obtain ⟨s1, m1, e1⟩ := hh.xlo
    obtain ⟨s2, m2, e2⟩ := hh.xhi
    obtain ⟨s3, m3, e3⟩ := hh.ylo
    obtain ⟨s4, m4, e4⟩ := hh.yhi
    have a1 := m1.box i hi
    have a2 := m2.box i hi
    have a3 := m3.box i hi
    have a4 := m4.box i hi
    have b1 := hh.all s1 m1
    unfold inB at a1 a2 a3 a4 b1
    exact ⟨⟨by omega, by omega, by omega⟩, ⟨by omega, by omega, by omega⟩⟩
  · rw [hull_nil h]; exact mild_nil
theorem len_narrow {p : Prob} (h : p.boxes.length ≤ 1000) : (narrowE p).1.length ≤ 1000 := by
  by_cases he : (narrowE p).2 = 0
  · rw [(narrowE_sub he).len]; exact h
  · rw [narrowE_nil he]; simp
theorem len_hull {p : Prob} (h : p.boxes.length ≤ 1000) : (hullP p).1.length ≤ 1000 := by
  by_cases he : (hullP p).2 = 0
  · obtain ⟨_, _, _, h1, _⟩ := hull_ok he; rw [h1]; exact h
  · rw [hull_nil he]; simp

set_option maxHeartbeats 6400000 in
set_option maxRecDepth 100000 in
theorem searchMoved_c (A1 A2 : Option Addr) (n nf c1 c2 : Nat) (bs : List Bx) (fs : List Fct) (f : Fct) (v : Pt) (w : World) (h1 : kBx.C w A1 n bs) (h2 : kFct.C w A2 nf fs) :
    Calls Try.prog 6 #[.agg #[.slice A1 n c1, .slice A2 nf c2], .agg #[.int .i64 f.id, .int .i64 f.kind, .bool f.no, .int .i64 f.a, .int .i64 f.b, .int .i64 f.c, .int .i64 f.span.lo, .int .i64 f.span.hi, .int .i64 f.quarter], .agg #[.int .i64 v.x, .int .i64 v.y]] w fun e w' => e = .returned (.bool true) ∧ Below w.heap.size w w' := by
  have H1 := Aside0.mk h1
  have H2 := Aside0.mk h2
  have HL1 := Aside0.mk h1.1
  have HL2 := Aside0.mk h2.1
  clear h1 h2
  go_enter Try.func6, Try.ntmps6
  go_wp2_with fail
  generalize hW : (((w.alloc _).alloc _).alloc _ : World) = W
  have hP : Cls W w.heap.size #[.slice A1 n c1, .slice A2 nf c2] 25 := by subst hW; exact (by repeat (first | (with_reducible assumption) | (exact Cls.new3 (by first | (simp; done) | (simp; omega) | omega)) | (with_reducible refine Cls.old ?_) | (refine Cls.set ?_ (by first | (dsimp only; omega) | (simp; omega) | simp)) | (with_reducible refine Cls.drew ?_) | (with_reducible refine Cls.below ?_ (by assumption))))
  have hF : Cls W (w.heap.size + 1) #[.int .i64 f.id, .int .i64 f.kind, .bool f.no, .int .i64 f.a, .int .i64 f.b, .int .i64 f.c, .int .i64 f.span.lo, .int .i64 f.span.hi, .int .i64 f.quarter] 33 := by subst hW; exact (by repeat (first | (with_reducible assumption) | (exact Cls.new3 (by first | (simp; done) | (simp; omega) | omega)) | (with_reducible refine Cls.old ?_) | (refine Cls.set ?_ (by first | (dsimp only; omega) | (simp; omega) | simp)) | (with_reducible refine Cls.drew ?_) | (with_reducible refine Cls.below ?_ (by assumption))))
  have hV : Cls W (w.heap.size + 1 + 1) #[.int .i64 v.x, .int .i64 v.y] 49 := by subst hW; exact (by repeat (first | (with_reducible assumption) | (exact Cls.new3 (by first | (simp; done) | (simp; omega) | omega)) | (with_reducible refine Cls.old ?_) | (refine Cls.set ?_ (by first | (dsimp only; omega) | (simp; omega) | simp)) | (with_reducible refine Cls.drew ?_) | (with_reducible refine Cls.below ?_ (by assumption))))
  have HB := Aside0.mk (show Below w.heap.size w W by subst hW; exact (by repeat (first | (with_reducible exact Below.refl _ _) | (with_reducible exact HB.out) | (with_reducible assumption) | (with_reducible apply below_alloc) | (with_reducible apply below_drew) | (with_reducible apply pw_below_drewN) | (with_reducible refine bstep' ?_ (by assumption)) | ((with_reducible refine Below.setCell ?_ ?_ _); rotate_left; (first | (dsimp only; omega) | (simp; done) | (simp; omega) | omega)))))
  clear hW
  refine (head_c _).mono ?_
  rintro e w1 ⟨rfl, hb⟩
  (have HB := Aside0.mk (bstep' HB.out hb); have hP := Cls.below hP hb; have hF := Cls.below hF hb; have hV := Cls.below hV hb; (try clear e0 e1 y0 y1); have e0 := hP.cell 0 _ rfl; have e1 := hP.cell 1 _ rfl; have y0 := hV.cell 0 _ rfl; have y1 := hV.cell 1 _ rfl; clear hb)
  go_wp2_with fail
  refine (few_c A1 A2 n nf c1 c2 bs fs _ (Kd.C_below H1.out HB.out) (Kd.C_below H2.out HB.out)).mono ?_
  rintro e w2 ⟨rfl, hb⟩
  (have HB := Aside0.mk (bstep' HB.out hb); have hP := Cls.below hP hb; have hF := Cls.below hF hb; have hV := Cls.below hV hb; (try clear e0 e1 y0 y1); have e0 := hP.cell 0 _ rfl; have e1 := hP.cell 1 _ rfl; have y0 := hV.cell 0 _ rfl; have y1 := hV.cell 1 _ rfl; clear hb)
  cases hfew : fewP ⟨bs, fs⟩ with
  | false =>
    go_wp2_with fail
    go_ret
    exact ⟨rfl, HB.out⟩
  | true =>
    clear hfew
    by_cases hr : (4 : Int) < (n : Int) ∨ (15 : Int) < (nf : Int) ∨ v.x < -2097152 ∨ 2097152 < v.x ∨ v.y < -2097152 ∨ 2097152 < v.y
    · rcases hr with hr | hr | hr | hr | hr | hr
      · go_wp2_with fail
        go_ret
        exact ⟨rfl, HB.out⟩
      · by_cases g1 : (4 : Int) < (n : Int)
        all_goals (go_wp2_with fail; go_ret; exact ⟨rfl, HB.out⟩)
      · by_cases g1 : (4 : Int) < (n : Int)
        · go_wp2_with fail
          go_ret
          exact ⟨rfl, HB.out⟩
        · by_cases g2 : (15 : Int) < (nf : Int)
          all_goals (go_wp2_with fail; go_ret; exact ⟨rfl, HB.out⟩)
      · have g3 : ¬ v.x < -2097152 := by omega
        by_cases g1 : (4 : Int) < (n : Int)
        · go_wp2_with fail
          go_ret
          exact ⟨rfl, HB.out⟩
        · by_cases g2 : (15 : Int) < (nf : Int)
          all_goals (go_wp2_with fail; go_ret; exact ⟨rfl, HB.out⟩)
      · by_cases g1 : (4 : Int) < (n : Int)
        · go_wp2_with fail
          go_ret
          exact ⟨rfl, HB.out⟩
        · by_cases g2 : (15 : Int) < (nf : Int)
          · go_wp2_with fail
            go_ret
            exact ⟨rfl, HB.out⟩
          · by_cases g3 : v.x < -2097152
            · go_wp2_with fail
              go_ret
              exact ⟨rfl, HB.out⟩
            · by_cases g4 : 2097152 < v.x
              all_goals (go_wp2_with fail; go_ret; exact ⟨rfl, HB.out⟩)
      · have g5 : ¬ v.y < -2097152 := by omega
        by_cases g1 : (4 : Int) < (n : Int)
        · go_wp2_with fail
          go_ret
          exact ⟨rfl, HB.out⟩
        · by_cases g2 : (15 : Int) < (nf : Int)
          · go_wp2_with fail
            go_ret
            exact ⟨rfl, HB.out⟩
          · by_cases g3 : v.x < -2097152
            · go_wp2_with fail
              go_ret
              exact ⟨rfl, HB.out⟩
            · by_cases g4 : 2097152 < v.x
              all_goals (go_wp2_with fail; go_ret; exact ⟨rfl, HB.out⟩)
    · have g1 : ¬ (4 : Int) < (n : Int) := by omega
      have g2 : ¬ (15 : Int) < (nf : Int) := by omega
      have g3 : ¬ v.x < -2097152 := by omega
      have g4 : ¬ 2097152 < v.x := by omega
      have g5 : ¬ v.y < -2097152 := by omega
      have g6 : ¬ 2097152 < v.y := by omega
      clear hr
      by_cases hc : checkP ⟨bs, fs⟩ = 0
      · have HC := Aside0.mk hc
        have hcb : (checkP ⟨bs, fs⟩ != 0) = false := by simp [hc]
        have hcb2 : (checkP ⟨bs, fs⟩ == 0) = true := by simp [hc]
        clear hc
        go_wp2_with (go_at_call 11; refine (check_c A1 A2 n nf c1 c2 bs fs _ (Kd.C_below H1.out HB.out) (Kd.C_below H2.out HB.out)).mono ?_; rintro e w3 ⟨rfl, hb⟩; (have HB := Aside0.mk (bstep' HB.out hb); have hP := Cls.below hP hb; have hF := Cls.below hF hb; have hV := Cls.below hV hb; (try clear e0 e1 y0 y1); have e0 := hP.cell 0 _ rfl; have e1 := hP.cell 1 _ rfl; have y0 := hV.cell 0 _ rfl; have y1 := hV.cell 1 _ rfl; clear hb))
        have hmv : (-1099511627776 ≤ v.x ∧ v.x ≤ 1099511627776) ∧ (-1099511627776 ≤ v.y ∧ v.y ≤ 1099511627776) := by omega
        have HMV := Aside0.mk hmv
        refine (moved_c A1 A2 n nf c1 c2 bs fs v _ (Kd.C_below H1.out HB.out) (Kd.C_below H2.out HB.out) (by omega) (by omega) (by
          obtain ⟨_, _, h3, _⟩ := check_zero HC.out
          exact mild_sub (.refl (ne_of_small h3)) h3) hmv.1 hmv.2).mono ?_
        rintro e w4 ⟨v1, v2, rfl, hv1, hv2, hb⟩
        obtain ⟨AX1, cx1, rfl⟩ := Kd.R_slice hv1
        obtain ⟨AX2, cx2, rfl⟩ := Kd.R_slice hv2
        have hl1 : (mvL v bs).length = n := by rw [mvL_length, HL1.out]
        have hl2 : fs.reverse.length = nf := by rw [List.length_reverse, HL2.out]
        rw [hl1] at hv1 ⊢
        rw [hl2] at hv2 ⊢
        have HX1 := Aside0.mk (row_C hv1).2
        have HX2 := Aside0.mk (row_C hv2).2
        (have HB := Aside0.mk (bstep' HB.out hb); have hP := Cls.below hP hb; have hF := Cls.below hF hb; have hV := Cls.below hV hb; (try clear e0 e1 y0 y1); have e0 := hP.cell 0 _ rfl; have e1 := hP.cell 1 _ rfl; have y0 := hV.cell 0 _ rfl; have y1 := hV.cell 1 _ rfl; clear hb)
        clear hv1 hv2 hl1 hl2 hmv
        have hl0 := hP.lt
        go_wp2_with fail
        clear hl0
        generalize hW : (w4.alloc _ : World) = W4
        have hQ : Cls W4 w4.heap.size #[.slice AX1 n cx1, .slice AX2 nf cx2] 25 := by subst hW; exact (by repeat (first | (with_reducible assumption) | (exact Cls.new3 (by first | (simp; done) | (simp; omega) | omega)) | (with_reducible refine Cls.old ?_) | (refine Cls.set ?_ (by first | (dsimp only; omega) | (simp; omega) | simp)) | (with_reducible refine Cls.drew ?_) | (with_reducible refine Cls.below ?_ (by assumption))))
        have hb : Below w4.heap.size w4 W4 := by subst hW; exact (by repeat (first | (with_reducible exact Below.refl _ _) | (with_reducible exact HB.out) | (with_reducible assumption) | (with_reducible apply below_alloc) | (with_reducible apply below_drew) | (with_reducible apply pw_below_drewN) | (with_reducible refine bstep' ?_ (by assumption)) | ((with_reducible refine Below.setCell ?_ ?_ _); rotate_left; (first | (dsimp only; omega) | (simp; done) | (simp; omega) | omega))))
        clear hW y0 y1
        (have HB := Aside0.mk (bstep' HB.out hb); have hP := Cls.below hP hb; have hF := Cls.below hF hb; have hV := Cls.below hV hb; have HX1 := Aside0.mk (Kd.C_below HX1.out hb); have HX2 := Aside0.mk (Kd.C_below HX2.out hb); (try clear e0 e1); have e0 := hP.cell 0 _ rfl; have e1 := hP.cell 1 _ rfl; clear hb)
        have q0 := hQ.cell 0 _ rfl
        have q1 := hQ.cell 1 _ rfl
        refine (check_c AX1 AX2 n nf cx1 cx2 (mvL v bs) fs.reverse _ HX1.out HX2.out).mono ?_
        rintro e w5 ⟨rfl, hb⟩
        (have HB := Aside0.mk (bstep' HB.out hb); have hP := Cls.below hP hb; have hF := Cls.below hF hb; have hV := Cls.below hV hb; have hQ := Cls.below hQ hb; have HX1 := Aside0.mk (Kd.C_below HX1.out hb); have HX2 := Aside0.mk (Kd.C_below HX2.out hb); (try clear e0 e1 q0 q1); have e0 := hP.cell 0 _ rfl; have e1 := hP.cell 1 _ rfl; have q0 := hQ.cell 0 _ rfl; have q1 := hQ.cell 1 _ rfl; clear hb)
        by_cases hc2 : checkP ⟨mvL v bs, fs.reverse⟩ = 0
        · have hdb : (checkP ⟨mvL v bs, fs.reverse⟩ != 0) = false := by simp [hc2]
          have hdb2 : (checkP ⟨mvL v bs, fs.reverse⟩ == 0) = true := by simp [hc2]
          obtain ⟨m1, m2, m3, m4⟩ := moved_law (p := ⟨bs, fs⟩) (q := ⟨mvL v bs, fs.reverse⟩) (v := v) rfl (fun x => by simp) (by simp) HC.out hc2 f
          have M1 := Aside0.mk m1
          have M2 := Aside0.mk m2
          have M3 := Aside0.mk m3
          have M4 := Aside0.mk m4
          have HMA := Aside0.mk (mild_narrow HC.out)
          have HMC := Aside0.mk (mild_hull HC.out)
          have HLA := Aside0.mk (len_narrow (p := ⟨bs, fs⟩) (by have := HL1.out; dsimp only; omega))
          have HLC := Aside0.mk (len_hull (p := ⟨bs, fs⟩) (by have := HL1.out; dsimp only; omega))
          clear hc2 m1 m2 m3 m4
          go_wp2_with fail
          clear hdb hdb2
          refine (narrowAll_c A1 A2 n nf c1 c2 bs fs _ (Kd.C_below H1.out HB.out) (Kd.C_below H2.out HB.out)).mono ?_
          rintro e w6 ⟨v, rfl, hv, hb⟩
          (have HB := Aside0.mk (bstep' HB.out hb); have hP := Cls.below hP hb; have hF := Cls.below hF hb; have hV := Cls.below hV hb; have hQ := Cls.below hQ hb; have HX1 := Aside0.mk (Kd.C_below HX1.out hb); have HX2 := Aside0.mk (Kd.C_below HX2.out hb); (try clear e0 e1 q0 q1); have e0 := hP.cell 0 _ rfl; have e1 := hP.cell 1 _ rfl; have q0 := hQ.cell 0 _ rfl; have q1 := hQ.cell 1 _ rfl; clear hb)
          obtain ⟨AA, ca, rfl⟩ := Kd.R_slice hv
          have HA := Aside0.mk (row_C hv).2
          clear hv
          go_wp2_with fail
          refine (narrowAll_c AX1 AX2 n nf cx1 cx2 (mvL v bs) fs.reverse _ HX1.out HX2.out).mono ?_
          rw [M1.out]
          rintro e w7 ⟨v, rfl, hv, hb⟩
          (have HB := Aside0.mk (bstep' HB.out hb); have hP := Cls.below hP hb; have hF := Cls.below hF hb; have hV := Cls.below hV hb; have hQ := Cls.below hQ hb; have HX1 := Aside0.mk (Kd.C_below HX1.out hb); have HX2 := Aside0.mk (Kd.C_below HX2.out hb); have HA := Aside0.mk (Kd.C_below HA.out hb); (try clear e0 e1 q0 q1); have e0 := hP.cell 0 _ rfl; have e1 := hP.cell 1 _ rfl; have q0 := hQ.cell 0 _ rfl; have q1 := hQ.cell 1 _ rfl; clear hb)
          obtain ⟨AB, cb, rfl⟩ := Kd.R_slice hv
          have HBR := Aside0.mk (row_C hv).2
          clear hv
          go_wp2_with fail
          refine (hullAll_c A1 A2 n nf c1 c2 bs fs _ (Kd.C_below H1.out HB.out) (Kd.C_below H2.out HB.out)).mono ?_
          rintro e w8 ⟨v, rfl, hv, hb⟩
          (have HB := Aside0.mk (bstep' HB.out hb); have hP := Cls.below hP hb; have hF := Cls.below hF hb; have hV := Cls.below hV hb; have hQ := Cls.below hQ hb; have HX1 := Aside0.mk (Kd.C_below HX1.out hb); have HX2 := Aside0.mk (Kd.C_below HX2.out hb); have HA := Aside0.mk (Kd.C_below HA.out hb); have HBR := Aside0.mk (Kd.C_below HBR.out hb); (try clear e0 e1 q0 q1); have e0 := hP.cell 0 _ rfl; have e1 := hP.cell 1 _ rfl; have q0 := hQ.cell 0 _ rfl; have q1 := hQ.cell 1 _ rfl; clear hb)
          obtain ⟨AC, cc, rfl⟩ := Kd.R_slice hv
          have HCR := Aside0.mk (row_C hv).2
          clear hv
          go_wp2_with fail
          refine (hullAll_c AX1 AX2 n nf cx1 cx2 (mvL v bs) fs.reverse _ HX1.out HX2.out).mono ?_
          rw [M2.out]
          rintro e w9 ⟨v, rfl, hv, hb⟩
          (have HB := Aside0.mk (bstep' HB.out hb); have hP := Cls.below hP hb; have hF := Cls.below hF hb; have hV := Cls.below hV hb; have hQ := Cls.below hQ hb; have HX1 := Aside0.mk (Kd.C_below HX1.out hb); have HX2 := Aside0.mk (Kd.C_below HX2.out hb); have HA := Aside0.mk (Kd.C_below HA.out hb); have HBR := Aside0.mk (Kd.C_below HBR.out hb); have HCR := Aside0.mk (Kd.C_below HCR.out hb); (try clear e0 e1 q0 q1); have e0 := hP.cell 0 _ rfl; have e1 := hP.cell 1 _ rfl; have q0 := hQ.cell 0 _ rfl; have q1 := hQ.cell 1 _ rfl; clear hb)
          obtain ⟨AD, cd, rfl⟩ := Kd.R_slice hv
          have HDR := Aside0.mk (row_C hv).2
          clear hv
          go_wp2_with fail
          refine (count_c A1 A2 n nf c1 c2 bs fs _ (Kd.C_below H1.out HB.out) (Kd.C_below H2.out HB.out)).mono ?_
          rintro e w10 ⟨rfl, hb⟩
          (have HB := Aside0.mk (bstep' HB.out hb); have hP := Cls.below hP hb; have hF := Cls.below hF hb; have hV := Cls.below hV hb; have hQ := Cls.below hQ hb; have HX1 := Aside0.mk (Kd.C_below HX1.out hb); have HX2 := Aside0.mk (Kd.C_below HX2.out hb); have HA := Aside0.mk (Kd.C_below HA.out hb); have HBR := Aside0.mk (Kd.C_below HBR.out hb); have HCR := Aside0.mk (Kd.C_below HCR.out hb); have HDR := Aside0.mk (Kd.C_below HDR.out hb); (try clear e0 e1 q0 q1); have e0 := hP.cell 0 _ rfl; have e1 := hP.cell 1 _ rfl; have q0 := hQ.cell 0 _ rfl; have q1 := hQ.cell 1 _ rfl; clear hb)
          go_wp2_with fail
          refine (count_c AX1 AX2 n nf cx1 cx2 (mvL v bs) fs.reverse _ HX1.out HX2.out).mono ?_
          rw [M3.out]
          rintro e w11 ⟨rfl, hb⟩
          (have HB := Aside0.mk (bstep' HB.out hb); have hP := Cls.below hP hb; have hF := Cls.below hF hb; have hV := Cls.below hV hb; have hQ := Cls.below hQ hb; have HX1 := Aside0.mk (Kd.C_below HX1.out hb); have HX2 := Aside0.mk (Kd.C_below HX2.out hb); have HA := Aside0.mk (Kd.C_below HA.out hb); have HBR := Aside0.mk (Kd.C_below HBR.out hb); have HCR := Aside0.mk (Kd.C_below HCR.out hb); have HDR := Aside0.mk (Kd.C_below HDR.out hb); (try clear e0 e1 q0 q1 f0 f1 f2 f3 f4 f5 f6 f7 f8); have e0 := hP.cell 0 _ rfl; have e1 := hP.cell 1 _ rfl; have q0 := hQ.cell 0 _ rfl; have q1 := hQ.cell 1 _ rfl; have f0 := hF.cell 0 _ rfl; have f1 := hF.cell 1 _ rfl; have f2 := hF.cell 2 _ rfl; have f3 := hF.cell 3 _ rfl; have f4 := hF.cell 4 _ rfl; have f5 := hF.cell 5 _ rfl; have f6 := hF.cell 6 _ rfl; have f7 := hF.cell 7 _ rfl; have f8 := hF.cell 8 _ rfl; clear hb)
          go_wp2_with fail
          refine (decide_c A1 A2 n nf c1 c2 bs fs f _ (Kd.C_below H1.out HB.out) (Kd.C_below H2.out HB.out)).mono ?_
          rintro e w12 ⟨rfl, hb⟩
          (have HB := Aside0.mk (bstep' HB.out hb); have hP := Cls.below hP hb; have hF := Cls.below hF hb; have hV := Cls.below hV hb; have hQ := Cls.below hQ hb; have HX1 := Aside0.mk (Kd.C_below HX1.out hb); have HX2 := Aside0.mk (Kd.C_below HX2.out hb); have HA := Aside0.mk (Kd.C_below HA.out hb); have HBR := Aside0.mk (Kd.C_below HBR.out hb); have HCR := Aside0.mk (Kd.C_below HCR.out hb); have HDR := Aside0.mk (Kd.C_below HDR.out hb); (try clear e0 e1 q0 q1 f0 f1 f2 f3 f4 f5 f6 f7 f8); have e0 := hP.cell 0 _ rfl; have e1 := hP.cell 1 _ rfl; have q0 := hQ.cell 0 _ rfl; have q1 := hQ.cell 1 _ rfl; have f0 := hF.cell 0 _ rfl; have f1 := hF.cell 1 _ rfl; have f2 := hF.cell 2 _ rfl; have f3 := hF.cell 3 _ rfl; have f4 := hF.cell 4 _ rfl; have f5 := hF.cell 5 _ rfl; have f6 := hF.cell 6 _ rfl; have f7 := hF.cell 7 _ rfl; have f8 := hF.cell 8 _ rfl; clear hb)
          go_wp2_with fail
          refine (decide_c AX1 AX2 n nf cx1 cx2 (mvL v bs) fs.reverse f _ HX1.out HX2.out).mono ?_
          rw [M4.out]
          rintro e w13 ⟨rfl, hb⟩
          (have HB := Aside0.mk (bstep' HB.out hb); have hP := Cls.below hP hb; have hF := Cls.below hF hb; have hV := Cls.below hV hb; have hQ := Cls.below hQ hb; have HX1 := Aside0.mk (Kd.C_below HX1.out hb); have HX2 := Aside0.mk (Kd.C_below HX2.out hb); have HA := Aside0.mk (Kd.C_below HA.out hb); have HBR := Aside0.mk (Kd.C_below HBR.out hb); have HCR := Aside0.mk (Kd.C_below HCR.out hb); have HDR := Aside0.mk (Kd.C_below HDR.out hb); (try clear e0 e1 q0 q1 y0 y1); have e0 := hP.cell 0 _ rfl; have e1 := hP.cell 1 _ rfl; have q0 := hQ.cell 0 _ rfl; have q1 := hQ.cell 1 _ rfl; have y0 := hV.cell 0 _ rfl; have y1 := hV.cell 1 _ rfl; clear hb)
          clear q0 q1 hQ HX1 HX2 M1 M2 M3 M4 hF hP e0 e1
          generalize (countP ⟨bs, fs⟩).1 = X1 at *
          generalize (countP ⟨bs, fs⟩).2 = X2 at *
          generalize (decideP ⟨bs, fs⟩ f).1 = X3 at *
          generalize (decideP ⟨bs, fs⟩ f).2 = X4 at *
          dsimp only at HBR HDR ⊢
          generalize (narrowE ⟨bs, fs⟩).1 = a at *
          generalize (narrowE ⟨bs, fs⟩).2 = X5 at *
          generalize (hullP ⟨bs, fs⟩).1 = c at *
          generalize (hullP ⟨bs, fs⟩).2 = X6 at *
          go_wp2_with fail
          refine (moved_c AA none a.length 0 ca 0 a [] v _ HA.out ⟨rfl, by omega, fun h => by omega⟩ HLA.out (by omega) HMA.out HMV.out.1 HMV.out.2).mono ?_
          rintro e w14 ⟨v1, v2, rfl, hv1, hv2, hb⟩
          obtain ⟨AM, cm, rfl⟩ := Kd.R_slice hv1
          obtain ⟨AN, cn, rfl⟩ := Kd.R_slice hv2
          clear hv2
          have HM := Aside0.mk (row_C hv1).2
          (have HB := Aside0.mk (bstep' HB.out hb); have hV := Cls.below hV hb; have HA := Aside0.mk (Kd.C_below HA.out hb); have HBR := Aside0.mk (Kd.C_below HBR.out hb); have HCR := Aside0.mk (Kd.C_below HCR.out hb); have HDR := Aside0.mk (Kd.C_below HDR.out hb); (try clear y0 y1); have y0 := hV.cell 0 _ rfl; have y1 := hV.cell 1 _ rfl; clear hb)
          clear hv1
          go_wp2_with fail
          refine (boxes_c AM AB (mvL v a).length (mvL v a).length cm cb (mvL v a) (mvL v a) _ HM.out HBR.out).mono ?_
          rw [show boxesB (mvL v a) (mvL v a) = true from decide_eq_true rfl]
          rintro e w15 ⟨rfl, hb⟩
          clear HM
          (have HB := Aside0.mk (bstep' HB.out hb); have hV := Cls.below hV hb; have HA := Aside0.mk (Kd.C_below HA.out hb); have HBR := Aside0.mk (Kd.C_below HBR.out hb); have HCR := Aside0.mk (Kd.C_below HCR.out hb); have HDR := Aside0.mk (Kd.C_below HDR.out hb); (try clear y0 y1); have y0 := hV.cell 0 _ rfl; have y1 := hV.cell 1 _ rfl; clear hb)
          go_wp2_with fail
          refine (moved_c AC none c.length 0 cc 0 c [] v _ HCR.out ⟨rfl, by omega, fun h => by omega⟩ HLC.out (by omega) HMC.out HMV.out.1 HMV.out.2).mono ?_
          rintro e w16 ⟨v1, v2, rfl, hv1, hv2, hb⟩
          obtain ⟨AM, cm, rfl⟩ := Kd.R_slice hv1
          obtain ⟨AN, cn, rfl⟩ := Kd.R_slice hv2
          clear hv2
          have HM := Aside0.mk (row_C hv1).2
          (have HB := Aside0.mk (bstep' HB.out hb); have hV := Cls.below hV hb; have HA := Aside0.mk (Kd.C_below HA.out hb); have HBR := Aside0.mk (Kd.C_below HBR.out hb); have HCR := Aside0.mk (Kd.C_below HCR.out hb); have HDR := Aside0.mk (Kd.C_below HDR.out hb); (try clear y0 y1); have y0 := hV.cell 0 _ rfl; have y1 := hV.cell 1 _ rfl; clear hb)
          clear hv1
          go_wp2_with fail
          refine (boxes_c AM AD (mvL v c).length (mvL v c).length cm cd (mvL v c) (mvL v c) _ HM.out HDR.out).mono ?_
          rw [show boxesB (mvL v c) (mvL v c) = true from decide_eq_true rfl]
          rintro e w17 ⟨rfl, hb⟩
          have HB := Aside0.mk (bstep' HB.out hb)
          clear HM hb
          go_wp2_with fail
          go_ret
          exact ⟨by simp, HB.out⟩
        · have hdb : (checkP ⟨mvL v bs, fs.reverse⟩ != 0) = true := by simp [hc2]
          have hdb2 : (checkP ⟨mvL v bs, fs.reverse⟩ == 0) = false := by simp [hc2]
          clear hc2
          go_wp2_with fail
          go_ret
          exact ⟨rfl, HB.out⟩
      · have hcb : (checkP ⟨bs, fs⟩ != 0) = true := by simp [hc]
        have hcb2 : (checkP ⟨bs, fs⟩ == 0) = false := by simp [hc]
        clear hc
        go_wp2_with (go_at_call 11; refine (check_c A1 A2 n nf c1 c2 bs fs _ (Kd.C_below H1.out HB.out) (Kd.C_below H2.out HB.out)).mono ?_; rintro e w3 ⟨rfl, hb⟩; (have HB := Aside0.mk (bstep' HB.out hb); have hP := Cls.below hP hb; have hF := Cls.below hF hb; have hV := Cls.below hV hb; (try clear e0 e1 y0 y1); have e0 := hP.cell 0 _ rfl; have e1 := hP.cell 1 _ rfl; have y0 := hV.cell 0 _ rfl; have y1 := hV.cell 1 _ rfl; clear hb))
        go_ret
        exact ⟨rfl, HB.out⟩
end Go.Proofs.Ytkkimlicabbooaa
