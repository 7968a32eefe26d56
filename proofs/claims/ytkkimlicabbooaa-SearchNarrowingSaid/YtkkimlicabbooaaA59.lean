/-
  SearchNarrowing, walked.
-/
import Derived.Test.YtkkimlicabbooaaB3
namespace Go.Proofs.Ytkkimlicabbooaa
open Go.RowKit Go.Proofs.YtkkimlicabbooaaW.PrintWords Bs
attribute [local go_sem] Later.cell? Later.frozen?
set_option linter.unusedVariables false
set_option linter.unusedSimpArgs false

set_option maxHeartbeats 3200000 in
set_option maxRecDepth 100000 in
theorem searchNarrowing_c (A1 A2 : Option Addr) (n nf c1 c2 : Nat) (bs : List Bx) (fs : List Fct) (f : Fct) (w : World) (h1 : kBx.C w A1 n bs) (h2 : kFct.C w A2 nf fs) :
    Calls Try.prog 4 #[.agg #[.slice A1 n c1, .slice A2 nf c2], .agg #[.int .i64 f.id, .int .i64 f.kind, .bool f.no, .int .i64 f.a, .int .i64 f.b, .int .i64 f.c, .int .i64 f.span.lo, .int .i64 f.span.hi, .int .i64 f.quarter]] w fun e w' => e = .returned (.bool true) ∧ Below w.heap.size w w' := by
  have H1 := Aside0.mk h1
  have H2 := Aside0.mk h2
  have HN := Aside0.mk h1.2.1
  have HL1 := Aside0.mk h1.1
  have HL2 := Aside0.mk h2.1
  clear h1 h2
  go_enter Try.func4, Try.ntmps4
  go_wp2_with fail
  generalize hW : ((w.alloc _).alloc _ : World) = W
  have hP : Cls W w.heap.size #[.slice A1 n c1, .slice A2 nf c2] 25 := by subst hW; exact (by repeat (first | (with_reducible assumption) | (exact Cls.new3 (by first | (simp; done) | (simp; omega) | omega)) | (with_reducible refine Cls.old ?_) | (refine Cls.set ?_ (by first | (dsimp only; omega) | (simp; omega) | simp)) | (with_reducible refine Cls.drew ?_) | (with_reducible refine Cls.below ?_ (by assumption))))
  have hF : Cls W (w.heap.size + 1) #[.int .i64 f.id, .int .i64 f.kind, .bool f.no, .int .i64 f.a, .int .i64 f.b, .int .i64 f.c, .int .i64 f.span.lo, .int .i64 f.span.hi, .int .i64 f.quarter] 33 := by subst hW; exact (by repeat (first | (with_reducible assumption) | (exact Cls.new3 (by first | (simp; done) | (simp; omega) | omega)) | (with_reducible refine Cls.old ?_) | (refine Cls.set ?_ (by first | (dsimp only; omega) | (simp; omega) | simp)) | (with_reducible refine Cls.drew ?_) | (with_reducible refine Cls.below ?_ (by assumption))))
  have HB := Aside0.mk (show Below w.heap.size w W by subst hW; exact (by repeat (first | (with_reducible exact Below.refl _ _) | (with_reducible exact HB.out) | (with_reducible assumption) | (with_reducible apply below_alloc) | (with_reducible apply below_drew) | (with_reducible apply pw_below_drewN) | (with_reducible refine bstep' ?_ (by assumption)) | ((with_reducible refine Below.setCell ?_ ?_ _); rotate_left; (first | (dsimp only; omega) | (simp; done) | (simp; omega) | omega)))))
  clear hW
  refine (head_c _).mono ?_
  rintro e w1 ⟨rfl, hb⟩
  (have HB := Aside0.mk (bstep' HB.out hb); have hP := Cls.below hP hb; have hF := Cls.below hF hb; (try clear e0 e1); have e0 := hP.cell 0 _ rfl; have e1 := hP.cell 1 _ rfl; clear hb)
  go_wp2_with fail
  refine (few_c A1 A2 n nf c1 c2 bs fs _ (Kd.C_below H1.out HB.out) (Kd.C_below H2.out HB.out)).mono ?_
  rintro e w2 ⟨rfl, hb⟩
  (have HB := Aside0.mk (bstep' HB.out hb); have hP := Cls.below hP hb; have hF := Cls.below hF hb; (try clear e0 e1); have e0 := hP.cell 0 _ rfl; have e1 := hP.cell 1 _ rfl; clear hb)
  cases hfew : fewP ⟨bs, fs⟩ with
  | false =>
    go_wp2_with fail
    go_ret
    exact ⟨rfl, HB.out⟩
  | true =>
    have HFW := Aside0.mk (few_len hfew)
    clear hfew
    by_cases h15 : (15 : Int) < (nf : Int)
    · go_wp2_with fail
      go_ret
      exact ⟨rfl, HB.out⟩
    · go_wp2_with fail
      refine (narrowAll_c A1 A2 n nf c1 c2 bs fs _ (Kd.C_below H1.out HB.out) (Kd.C_below H2.out HB.out)).mono ?_
      rintro e w3 ⟨v, rfl, hv, hb⟩
      (have HB := Aside0.mk (bstep' HB.out hb); have hP := Cls.below hP hb; have hF := Cls.below hF hb; (try clear e0 e1); have e0 := hP.cell 0 _ rfl; have e1 := hP.cell 1 _ rfl; clear hb)
      obtain ⟨AL, cl, rfl⟩ := Kd.R_slice hv
      have HV := Aside0.mk (row_C hv).2
      clear hv
      by_cases hE : (narrowE ⟨bs, fs⟩).2 = 0
      · obtain ⟨hag, hcn⟩ := narrowE_again hE
        have HAG := Aside0.mk hag
        have HCN := Aside0.mk hcn
        have HSB := Aside0.mk (narrowE_sub hE)
        have HMO := Aside0.mk (fun k => narrowE_more (p := ⟨bs, fs⟩) (f := f) hE k)
        have HER := Aside0.mk (narrowE_err (p := ⟨bs, fs ++ [f]⟩) (by have := HFW.out.1; dsimp only at *; omega) (by have := HFW.out.2; have := HL2.out; simp; omega))
        have hlen : (narrowE ⟨bs, fs⟩).1.length = n := by rw [(narrowE_sub hE).len, HL1.out]
        clear hag hcn
        generalize (narrowE ⟨bs, fs⟩).1 = l at *
        generalize (narrowE ⟨bs, fs⟩).2 = E at *
        subst hE
        rw [hlen] at HV ⊢
        have HLN := Aside0.mk hlen
        clear hlen
        go_wp2_with fail
        generalize hW : (w3.alloc _ : World) = W3
        have hQ : Cls W3 w3.heap.size #[.slice AL n cl, .slice A2 nf c2] 25 := by subst hW; exact (by repeat (first | (with_reducible assumption) | (exact Cls.new3 (by first | (simp; done) | (simp; omega) | omega)) | (with_reducible refine Cls.old ?_) | (refine Cls.set ?_ (by first | (dsimp only; omega) | (simp; omega) | simp)) | (with_reducible refine Cls.drew ?_) | (with_reducible refine Cls.below ?_ (by assumption))))
        have hb : Below w3.heap.size w3 W3 := by subst hW; exact (by repeat (first | (with_reducible exact Below.refl _ _) | (with_reducible exact HB.out) | (with_reducible assumption) | (with_reducible apply below_alloc) | (with_reducible apply below_drew) | (with_reducible apply pw_below_drewN) | (with_reducible refine bstep' ?_ (by assumption)) | ((with_reducible refine Below.setCell ?_ ?_ _); rotate_left; (first | (dsimp only; omega) | (simp; done) | (simp; omega) | omega))))
        have HV := Aside0.mk (Kd.C_below HV.out hb)
        (have HB := Aside0.mk (bstep' HB.out hb); have hP := Cls.below hP hb; have hF := Cls.below hF hb; (try clear e0 e1); have e0 := hP.cell 0 _ rfl; have e1 := hP.cell 1 _ rfl; clear hb)
        have q0 := hQ.cell 0 _ rfl
        have q1 := hQ.cell 1 _ rfl
        clear hW
        refine (narrowAll_c AL A2 n nf cl c2 l fs _ HV.out (Kd.C_below H2.out HB.out)).mono ?_
        rw [HAG.out]
        rintro e w4 ⟨v, rfl, hv, hb⟩
        have HV := Aside0.mk (Kd.C_below HV.out hb)
        have hQ := Cls.below hQ hb
        (have HB := Aside0.mk (bstep' HB.out hb); have hP := Cls.below hP hb; have hF := Cls.below hF hb; (try clear e0 e1); have e0 := hP.cell 0 _ rfl; have e1 := hP.cell 1 _ rfl; clear hb)
        obtain ⟨AM, cm, rfl⟩ := Kd.R_slice hv
        have HM := Aside0.mk (row_C hv).2
        clear hv q0 q1
        have q0 := hQ.cell 0 _ rfl
        have q1 := hQ.cell 1 _ rfl
        dsimp only at HM ⊢
        rw [HLN.out] at HM ⊢
        go_wp2_with fail
        refine (count_c A1 A2 n nf c1 c2 bs fs _ (Kd.C_below H1.out HB.out) (Kd.C_below H2.out HB.out)).mono ?_
        rintro e w5 ⟨rfl, hb⟩
        have HV := Aside0.mk (Kd.C_below HV.out hb)
        have HM := Aside0.mk (Kd.C_below HM.out hb)
        have hQ := Cls.below hQ hb
        (have HB := Aside0.mk (bstep' HB.out hb); have hP := Cls.below hP hb; have hF := Cls.below hF hb; (try clear e0 e1); have e0 := hP.cell 0 _ rfl; have e1 := hP.cell 1 _ rfl; clear hb)
        clear q0 q1
        have q0 := hQ.cell 0 _ rfl
        have q1 := hQ.cell 1 _ rfl
        go_wp2_with fail
        refine (count_c AL A2 n nf cl c2 l fs _ HV.out (Kd.C_below H2.out HB.out)).mono ?_
        rw [HCN.out]
        rintro e w6 ⟨rfl, hb⟩
        have HV := Aside0.mk (Kd.C_below HV.out hb)
        have HM := Aside0.mk (Kd.C_below HM.out hb)
        (have HB := Aside0.mk (bstep' HB.out hb); have hP := Cls.below hP hb; have hF := Cls.below hF hb; (try clear e0 e1); have e0 := hP.cell 0 _ rfl; have e1 := hP.cell 1 _ rfl; clear hb)
        clear q0 q1 hQ
        generalize (countP ⟨bs, fs⟩).1 = N at *
        generalize (countP ⟨bs, fs⟩).2 = H at *
        go_wp2_with fail
        refine (boxes_c AL AM n n cl cm l l _ HV.out HM.out).mono ?_
        rw [show boxesB l l = true from decide_eq_true rfl]
        rintro e w7 ⟨rfl, hb⟩
        have HV := Aside0.mk (Kd.C_below HV.out hb)
        (have HB := Aside0.mk (bstep' HB.out hb); have hP := Cls.below hP hb; have hF := Cls.below hF hb; (try clear e0 e1); have e0 := hP.cell 0 _ rfl; have e1 := hP.cell 1 _ rfl; clear hb)
        (have f0 := hF.cell 0 _ rfl; have f1 := hF.cell 1 _ rfl; have f2 := hF.cell 2 _ rfl; have f3 := hF.cell 3 _ rfl; have f4 := hF.cell 4 _ rfl; have f5 := hF.cell 5 _ rfl; have f6 := hF.cell 6 _ rfl; have f7 := hF.cell 7 _ rfl; have f8 := hF.cell 8 _ rfl)
        by_cases hH : H = 0
        · subst hH
          go_wp2_with fail
          refine (refWith_c A1 A2 n nf c1 c2 fs f _ (Kd.C_below H2.out HB.out) (by omega)).mono ?_
          rintro e w8 ⟨v, rfl, hv, hb⟩
          obtain ⟨AX, cx, rfl⟩ := Kd.R_slice hv
          have hfl : (fs ++ [f]).length = nf + 1 := by rw [List.length_append, HL2.out]; rfl
          rw [hfl] at hv ⊢
          clear hfl
          have HX := Aside0.mk (row_C hv).2
          have HV := Aside0.mk (Kd.C_below HV.out hb)
          (have HB := Aside0.mk (bstep' HB.out hb); have hP := Cls.below hP hb; (try clear e0 e1); have e0 := hP.cell 0 _ rfl; have e1 := hP.cell 1 _ rfl; clear hb)
          clear hv f0 f1 f2 f3 f4 f5 f6 f7 f8 hF
          go_wp2_with fail
          refine (narrowAll_c A1 AX n (nf + 1) c1 cx bs (fs ++ [f]) _ (Kd.C_below H1.out HB.out) HX.out).mono ?_
          rintro e w9 ⟨v, rfl, hv, hb⟩
          obtain ⟨AR, cr, rfl⟩ := Kd.R_slice hv
          have HR := Aside0.mk (row_C hv).2
          have HV := Aside0.mk (Kd.C_below HV.out hb)
          (have HB := Aside0.mk (bstep' HB.out hb); have hP := Cls.below hP hb; (try clear e0 e1); have e0 := hP.cell 0 _ rfl; have e1 := hP.cell 1 _ rfl; clear hb)
          clear hv e0 e1 hP HX
          have hj := HER.out
          have hm := HMO.out
          generalize (narrowE ⟨bs, fs ++ [f]⟩).1 = r at *
          generalize (narrowE ⟨bs, fs ++ [f]⟩).2 = J at *
          clear HER HMO
          rcases hj with hj | hj | hj
          · have hsb := hm hj
            have HSL := Aside0.mk hsb
            have hrl : r.length = n := by rw [hsb.len, HLN.out]
            rw [hrl] at HR ⊢
            subst hj
            clear hsb hm hrl
            go_wp2_with fail
            have hn9 : n ≤ 9223372036854775807 := HN.out
            go_loopg [18] n (fun m cnt wr => ∃ k : Nat, k + m = n ∧ cnt = .int .i64 k ∧ Aside0 (Below w9.heap.size w9 wr))
            case atStart => exact ⟨0, by omega, rfl, ⟨Below.refl _ _⟩⟩
            case round =>
              obtain ⟨k, hk, rfl, HK⟩ := hrel
              by_cases hlt : k < n
              · obtain ⟨br, offr, rfl, hbr, x0, x1, x2, x3⟩ := at_Bx (Kd.C_below HR.out HK.out) (k : Int) (by omega) (by omega)
                obtain ⟨bl, offl, rfl, hbl, y0, y1, y2, y3⟩ := at_Bx (Kd.C_below HV.out HK.out) (k : Int) (by omega) (by omega)
                simp only [Int.toNat_natCast] at x0 x1 x2 x3 y0 y1 y2 y3
                have hli : liesB (rBx r (k : Int)) (rBx l (k : Int)) = true := lies_of (HSL.out.at_ k (by rw [HSL.out.len, HLN.out]; exact hlt))
                go_wp2_with fail
                (refine wp_region_quiet (C := fun w' => ∃ t : Later _, w' = t.w) (by kernel_rfl) (by kernel_rfl) (IsLater.drew _) ?_; (repeat (first | go_big_quiet_step ((go_at_call 18; exact later_of (lies_c (rBx r (k : Int)) (rBx l (k : Int)) _))) | quiet_step ((go_at_call 18; exact later_of (lies_c (rBx r (k : Int)) (rBx l (k : Int)) _))))); refine wpQuiet_nil ?_; rintro _ ⟨tq, rfl⟩)
                rw [hli]
                go_wp2_with fail
                go_roundg (gk - 1)
                case measure => omega
                case rel => exact ⟨k + 1, by omega, by go_num, ⟨bstep' HK.out tq.h⟩⟩
              · go_wp2_with fail
                go_ret
                exact ⟨rfl, bstep' HB.out HK.out⟩
          · subst hj
            clear hm
            go_wp2_with fail
            go_ret
            exact ⟨rfl, HB.out⟩
          · subst hj
            clear hm
            go_wp2_with fail
            go_ret
            exact ⟨rfl, HB.out⟩
        · have hHb : (H == 0) = false := by simp [hH]
          have hHc : (H != 0) = true := by simp [hH]
          go_wp2_with fail
          refine (refWith_c A1 A2 n nf c1 c2 fs f _ (Kd.C_below H2.out HB.out) (by omega)).mono ?_
          rintro e w8 ⟨v, rfl, hv, hb⟩
          obtain ⟨AX, cx, rfl⟩ := Kd.R_slice hv
          have hfl : (fs ++ [f]).length = nf + 1 := by rw [List.length_append, HL2.out]; rfl
          rw [hfl] at hv ⊢
          clear hfl
          have HX := Aside0.mk (row_C hv).2
          have HV := Aside0.mk (Kd.C_below HV.out hb)
          (have HB := Aside0.mk (bstep' HB.out hb); have hP := Cls.below hP hb; (try clear e0 e1); have e0 := hP.cell 0 _ rfl; have e1 := hP.cell 1 _ rfl; clear hb)
          clear hv f0 f1 f2 f3 f4 f5 f6 f7 f8 hF
          go_wp2_with fail
          refine (narrowAll_c A1 AX n (nf + 1) c1 cx bs (fs ++ [f]) _ (Kd.C_below H1.out HB.out) HX.out).mono ?_
          rintro e w9 ⟨v, rfl, hv, hb⟩
          obtain ⟨AR, cr, rfl⟩ := Kd.R_slice hv
          have HR := Aside0.mk (row_C hv).2
          have HV := Aside0.mk (Kd.C_below HV.out hb)
          (have HB := Aside0.mk (bstep' HB.out hb); have hP := Cls.below hP hb; (try clear e0 e1); have e0 := hP.cell 0 _ rfl; have e1 := hP.cell 1 _ rfl; clear hb)
          clear hv e0 e1 hP HX
          have hj := HER.out
          have hm := HMO.out
          generalize (narrowE ⟨bs, fs ++ [f]⟩).1 = r at *
          generalize (narrowE ⟨bs, fs ++ [f]⟩).2 = J at *
          clear HER HMO
          rcases hj with hj | hj | hj
          · have hsb := hm hj
            have HSL := Aside0.mk hsb
            have hrl : r.length = n := by rw [hsb.len, HLN.out]
            rw [hrl] at HR ⊢
            subst hj
            clear hsb hm hrl
            go_wp2_with fail
            have hn9 : n ≤ 9223372036854775807 := HN.out
            go_loopg [18] n (fun m cnt wr => ∃ k : Nat, k + m = n ∧ cnt = .int .i64 k ∧ Aside0 (Below w9.heap.size w9 wr))
            case atStart => exact ⟨0, by omega, rfl, ⟨Below.refl _ _⟩⟩
            case round =>
              obtain ⟨k, hk, rfl, HK⟩ := hrel
              by_cases hlt : k < n
              · obtain ⟨br, offr, rfl, hbr, x0, x1, x2, x3⟩ := at_Bx (Kd.C_below HR.out HK.out) (k : Int) (by omega) (by omega)
                obtain ⟨bl, offl, rfl, hbl, y0, y1, y2, y3⟩ := at_Bx (Kd.C_below HV.out HK.out) (k : Int) (by omega) (by omega)
                simp only [Int.toNat_natCast] at x0 x1 x2 x3 y0 y1 y2 y3
                have hli : liesB (rBx r (k : Int)) (rBx l (k : Int)) = true := lies_of (HSL.out.at_ k (by rw [HSL.out.len, HLN.out]; exact hlt))
                go_wp2_with fail
                (refine wp_region_quiet (C := fun w' => ∃ t : Later _, w' = t.w) (by kernel_rfl) (by kernel_rfl) (IsLater.drew _) ?_; (repeat (first | go_big_quiet_step ((go_at_call 18; exact later_of (lies_c (rBx r (k : Int)) (rBx l (k : Int)) _))) | quiet_step ((go_at_call 18; exact later_of (lies_c (rBx r (k : Int)) (rBx l (k : Int)) _))))); refine wpQuiet_nil ?_; rintro _ ⟨tq, rfl⟩)
                rw [hli]
                go_wp2_with fail
                go_roundg (gk - 1)
                case measure => omega
                case rel => exact ⟨k + 1, by omega, by go_num, ⟨bstep' HK.out tq.h⟩⟩
              · go_wp2_with fail
                go_ret
                exact ⟨rfl, bstep' HB.out HK.out⟩
          · subst hj
            clear hm
            go_wp2_with fail
            go_ret
            exact ⟨rfl, HB.out⟩
          · subst hj
            clear hm
            go_wp2_with fail
            go_ret
            exact ⟨rfl, HB.out⟩
      · have hEb : ((narrowE ⟨bs, fs⟩).2 != 0) = true := by simp [hE]
        have hl0 := narrowE_nil hE
        rw [hl0]
        generalize (narrowE ⟨bs, fs⟩).2 = E at *
        clear hl0 HV
        go_wp2_with fail
        go_ret
        exact ⟨rfl, HB.out⟩
end Go.Proofs.Ytkkimlicabbooaa
