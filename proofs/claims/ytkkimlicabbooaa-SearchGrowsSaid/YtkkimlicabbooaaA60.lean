/-
  SearchGrows, walked.
-/
import Derived.Test.YtkkimlicabbooaaB3
import Derived.Test.YtkkimlicabbooaaPlain27
namespace Go.Proofs.Ytkkimlicabbooaa
open Go.RowKit Go.Proofs.YtkkimlicabbooaaW.PrintWords Bs
attribute [local go_sem] Later.cell? Later.frozen?
set_option linter.unusedVariables false
set_option linter.unusedSimpArgs false

theorem grows_count {N M E H : Int} (h : E = 0 → H = 0 → M ≤ N) : (E == 0) = false ∨ ((E == 0) = true ∧ (H == 0) = false) ∨ ((E == 0) = true ∧ (H == 0) = true ∧ ¬ N < M) := by
  by_cases hE : E = 0
  · by_cases hH : H = 0
    · have := h hE hH; exact .inr (.inr ⟨by simp [hE], by simp [hH], by omega⟩)
    · exact .inr (.inl ⟨by simp [hE], by simp [hH]⟩)
  · exact .inl (by simp [hE])
theorem grows_hull {I J : Int} {P : Prop} (h : I = 0 → J = 0 → P) : ((I == 0) = false ∨ ((I == 0) = true ∧ (J == 0) = false)) ∨ ((I == 0) = true ∧ (J == 0) = true ∧ P) := by
  by_cases hE : I = 0
  · by_cases hH : J = 0
    · exact .inr ⟨by simp [hE], by simp [hH], h hE hH⟩
    · exact .inl (.inr ⟨by simp [hE], by simp [hH]⟩)
  · exact .inl (.inl (by simp [hE]))
theorem grows_decide {x y c d : Int} (h : c = 0 → d = 0 → x = 3 ∨ x = y) : (c != 0) = true ∨ ((c != 0) = false ∧ (d != 0) = true) ∨ ((c != 0) = false ∧ (d != 0) = false ∧ (x == 3) = true) ∨ ((c != 0) = false ∧ (d != 0) = false ∧ (x == 3) = false ∧ (x == y) = true) := by
  by_cases hc : c = 0
  · by_cases hd : d = 0
    · by_cases hx : x = 3
      · exact .inr (.inr (.inl ⟨by simp [hc], by simp [hd], by simp [hx]⟩))
      · rcases h hc hd with h | h
        · exact absurd h hx
        · exact .inr (.inr (.inr ⟨by simp [hc], by simp [hd], by simp [hx], by simp [h]⟩))
    · exact .inr (.inl ⟨by simp [hc], by simp [hd]⟩)
  · exact .inl (by simp [hc])

set_option maxHeartbeats 6400000 in
set_option maxRecDepth 100000 in
theorem searchGrows_c (A1 A2 : Option Addr) (n nf c1 c2 : Nat) (bs : List Bx) (fs : List Fct) (f g : Fct) (w : World) (h1 : kBx.C w A1 n bs) (h2 : kFct.C w A2 nf fs) :
    Calls Try.prog 5 #[.agg #[.slice A1 n c1, .slice A2 nf c2], .agg #[.int .i64 f.id, .int .i64 f.kind, .bool f.no, .int .i64 f.a, .int .i64 f.b, .int .i64 f.c, .int .i64 f.span.lo, .int .i64 f.span.hi, .int .i64 f.quarter], .agg #[.int .i64 g.id, .int .i64 g.kind, .bool g.no, .int .i64 g.a, .int .i64 g.b, .int .i64 g.c, .int .i64 g.span.lo, .int .i64 g.span.hi, .int .i64 g.quarter]] w fun e w' => e = .returned (.bool true) ∧ Below w.heap.size w w' := by
  have H1 := Aside0.mk h1
  have H2 := Aside0.mk h2
  have HN := Aside0.mk h1.2.1
  have HL1 := Aside0.mk h1.1
  have HL2 := Aside0.mk h2.1
  have hq : ∀ x ∈ (⟨bs, fs⟩ : Prob).facts, x ∈ (⟨bs, fs ++ [f]⟩ : Prob).facts := fun x hx => by dsimp only at *; simp [hx]
  have HCC := Aside0.mk (grows_count (N := (countP ⟨bs, fs⟩).1) (E := (countP ⟨bs, fs⟩).2) (M := (countP ⟨bs, fs ++ [f]⟩).1) (H := (countP ⟨bs, fs ++ [f]⟩).2) (fun a b => count_fewer (p := ⟨bs, fs⟩) (q := ⟨bs, fs ++ [f]⟩) rfl hq (Prod.ext rfl a) (Prod.ext rfl b)))
  have HHL := Aside0.mk (grows_hull (I := (hullP ⟨bs, fs⟩).2) (J := (hullP ⟨bs, fs ++ [f]⟩).2) (fun a b => hull_lies (p := ⟨bs, fs⟩) (q := ⟨bs, fs ++ [f]⟩) rfl hq a b))
  have HDD := Aside0.mk (grows_decide (x := (decideP ⟨bs, fs⟩ g).1) (c := (decideP ⟨bs, fs⟩ g).2) (y := (decideP ⟨bs, fs ++ [f]⟩ g).1) (d := (decideP ⟨bs, fs ++ [f]⟩ g).2) (fun a b => decide_stays (p := ⟨bs, fs⟩) (q := ⟨bs, fs ++ [f]⟩) rfl hq (Prod.ext rfl a) (Prod.ext rfl b)))
  clear h1 h2 hq
  go_enter Try.func5, Try.ntmps5
  go_wp2_with fail
  generalize hW : (((w.alloc _).alloc _).alloc _ : World) = W
  have hP : Cls W w.heap.size #[.slice A1 n c1, .slice A2 nf c2] 25 := by subst hW; exact (by repeat (first | (with_reducible assumption) | (exact Cls.new3 (by first | (simp; done) | (simp; omega) | omega)) | (with_reducible refine Cls.old ?_) | (refine Cls.set ?_ (by first | (dsimp only; omega) | (simp; omega) | simp)) | (with_reducible refine Cls.drew ?_) | (with_reducible refine Cls.below ?_ (by assumption))))
  have hF : Cls W (w.heap.size + 1) #[.int .i64 f.id, .int .i64 f.kind, .bool f.no, .int .i64 f.a, .int .i64 f.b, .int .i64 f.c, .int .i64 f.span.lo, .int .i64 f.span.hi, .int .i64 f.quarter] 33 := by subst hW; exact (by repeat (first | (with_reducible assumption) | (exact Cls.new3 (by first | (simp; done) | (simp; omega) | omega)) | (with_reducible refine Cls.old ?_) | (refine Cls.set ?_ (by first | (dsimp only; omega) | (simp; omega) | simp)) | (with_reducible refine Cls.drew ?_) | (with_reducible refine Cls.below ?_ (by assumption))))
  have hG : Cls W (w.heap.size + 1 + 1) #[.int .i64 g.id, .int .i64 g.kind, .bool g.no, .int .i64 g.a, .int .i64 g.b, .int .i64 g.c, .int .i64 g.span.lo, .int .i64 g.span.hi, .int .i64 g.quarter] 33 := by subst hW; exact (by repeat (first | (with_reducible assumption) | (exact Cls.new3 (by first | (simp; done) | (simp; omega) | omega)) | (with_reducible refine Cls.old ?_) | (refine Cls.set ?_ (by first | (dsimp only; omega) | (simp; omega) | simp)) | (with_reducible refine Cls.drew ?_) | (with_reducible refine Cls.below ?_ (by assumption))))
  have HB := Aside0.mk (show Below w.heap.size w W by subst hW; exact (by repeat (first | (with_reducible exact Below.refl _ _) | (with_reducible exact HB.out) | (with_reducible assumption) | (with_reducible apply below_alloc) | (with_reducible apply below_drew) | (with_reducible apply pw_below_drewN) | (with_reducible refine bstep' ?_ (by assumption)) | ((with_reducible refine Below.setCell ?_ ?_ _); rotate_left; (first | (dsimp only; omega) | (simp; done) | (simp; omega) | omega)))))
  clear hW
  refine (head_c _).mono ?_
  rintro e w1 ⟨rfl, hb⟩
  have hG := Cls.below hG hb
  (have HB := Aside0.mk (bstep' HB.out hb); have hP := Cls.below hP hb; have hF := Cls.below hF hb; (try clear e0 e1); have e0 := hP.cell 0 _ rfl; have e1 := hP.cell 1 _ rfl; clear hb)
  go_wp2_with fail
  refine (few_c A1 A2 n nf c1 c2 bs fs _ (Kd.C_below H1.out HB.out) (Kd.C_below H2.out HB.out)).mono ?_
  rintro e w2 ⟨rfl, hb⟩
  have hG := Cls.below hG hb
  (have HB := Aside0.mk (bstep' HB.out hb); have hP := Cls.below hP hb; have hF := Cls.below hF hb; (try clear e0 e1); have e0 := hP.cell 0 _ rfl; have e1 := hP.cell 1 _ rfl; clear hb)
  cases hfew : fewP ⟨bs, fs⟩ with
  | false =>
    go_wp2_with fail
    go_ret
    exact ⟨rfl, HB.out⟩
  | true =>
    clear hfew
    by_cases h4 : (4 : Int) < (n : Int)
    · go_wp2_with fail
      go_ret
      exact ⟨rfl, HB.out⟩
    · by_cases h14 : (14 : Int) < (nf : Int)
      · go_wp2_with fail
        go_ret
        exact ⟨rfl, HB.out⟩
      · (have f0 := hF.cell 0 _ rfl; have f1 := hF.cell 1 _ rfl; have f2 := hF.cell 2 _ rfl; have f3 := hF.cell 3 _ rfl; have f4 := hF.cell 4 _ rfl; have f5 := hF.cell 5 _ rfl; have f6 := hF.cell 6 _ rfl; have f7 := hF.cell 7 _ rfl; have f8 := hF.cell 8 _ rfl)
        go_wp2_with fail
        refine (refWith_c A1 A2 n nf c1 c2 fs f _ (Kd.C_below H2.out HB.out) (by omega)).mono ?_
        rintro e w8 ⟨v, rfl, hv, hb⟩
        obtain ⟨AX, cx, rfl⟩ := Kd.R_slice hv
        have hfl : (fs ++ [f]).length = nf + 1 := by rw [List.length_append, HL2.out]; rfl
        rw [hfl] at hv ⊢
        have HX := Aside0.mk (row_C hv).2
        have hG := Cls.below hG hb
        (have HB := Aside0.mk (bstep' HB.out hb); have hP := Cls.below hP hb; (try clear e0 e1); have e0 := hP.cell 0 _ rfl; have e1 := hP.cell 1 _ rfl; clear hb)
        clear hv f0 f1 f2 f3 f4 f5 f6 f7 f8 hF hfl
        have hl0 := hP.lt
        go_wp2_with fail
        clear hl0
        generalize hW : (w8.alloc _ : World) = W8
        have hQ : Cls W8 w8.heap.size #[.slice A1 n c1, .slice AX (nf + 1) cx] 25 := by subst hW; exact (by repeat (first | (with_reducible assumption) | (exact Cls.new3 (by first | (simp; done) | (simp; omega) | omega)) | (with_reducible refine Cls.old ?_) | (refine Cls.set ?_ (by first | (dsimp only; omega) | (simp; omega) | simp)) | (with_reducible refine Cls.drew ?_) | (with_reducible refine Cls.below ?_ (by assumption))))
        have hb : Below w8.heap.size w8 W8 := by subst hW; exact (by repeat (first | (with_reducible exact Below.refl _ _) | (with_reducible exact HB.out) | (with_reducible assumption) | (with_reducible apply below_alloc) | (with_reducible apply below_drew) | (with_reducible apply pw_below_drewN) | (with_reducible refine bstep' ?_ (by assumption)) | ((with_reducible refine Below.setCell ?_ ?_ _); rotate_left; (first | (dsimp only; omega) | (simp; done) | (simp; omega) | omega))))
        clear hW
        have HX := Aside0.mk (Kd.C_below HX.out hb)
        have hG := Cls.below hG hb
        (have HB := Aside0.mk (bstep' HB.out hb); have hP := Cls.below hP hb; (try clear e0 e1); have e0 := hP.cell 0 _ rfl; have e1 := hP.cell 1 _ rfl; clear hb)
        have q0 := hQ.cell 0 _ rfl
        have q1 := hQ.cell 1 _ rfl
        refine (count_c A1 A2 n nf c1 c2 bs fs _ (Kd.C_below H1.out HB.out) (Kd.C_below H2.out HB.out)).mono ?_
        rintro e w9 ⟨rfl, hb⟩
        (have HB := Aside0.mk (bstep' HB.out hb); have hP := Cls.below hP hb; have hQ := Cls.below hQ hb; have hG := Cls.below hG hb; have HX := Aside0.mk (Kd.C_below HX.out hb); (try clear e0 e1 q0 q1); have e0 := hP.cell 0 _ rfl; have e1 := hP.cell 1 _ rfl; have q0 := hQ.cell 0 _ rfl; have q1 := hQ.cell 1 _ rfl; clear hb)
        go_wp2_with fail
        refine (count_c A1 AX n (nf + 1) c1 cx bs (fs ++ [f]) _ (Kd.C_below H1.out HB.out) HX.out).mono ?_
        rintro e w9 ⟨rfl, hb⟩
        (have HB := Aside0.mk (bstep' HB.out hb); have hP := Cls.below hP hb; have hQ := Cls.below hQ hb; have hG := Cls.below hG hb; have HX := Aside0.mk (Kd.C_below HX.out hb); (try clear e0 e1 q0 q1); have e0 := hP.cell 0 _ rfl; have e1 := hP.cell 1 _ rfl; have q0 := hQ.cell 0 _ rfl; have q1 := hQ.cell 1 _ rfl; clear hb)
        have hcc := HCC.out
        generalize (countP ⟨bs, fs⟩).1 = N at *
        generalize (countP ⟨bs, fs⟩).2 = E at *
        generalize (countP ⟨bs, fs ++ [f]⟩).1 = M at *
        generalize (countP ⟨bs, fs ++ [f]⟩).2 = H at *
        clear HCC
        rcases hcc with hE | ⟨hE, hH⟩ | ⟨hE, hH, hM⟩
        all_goals go_wp2_with fail
        all_goals
          refine (hullAll_c A1 A2 n nf c1 c2 bs fs _ (Kd.C_below H1.out HB.out) (Kd.C_below H2.out HB.out)).mono ?_
          rintro e w10 ⟨v, rfl, hv, hb⟩
          (have HB := Aside0.mk (bstep' HB.out hb); have hP := Cls.below hP hb; have hQ := Cls.below hQ hb; have hG := Cls.below hG hb; have HX := Aside0.mk (Kd.C_below HX.out hb); (try clear e0 e1 q0 q1); have e0 := hP.cell 0 _ rfl; have e1 := hP.cell 1 _ rfl; have q0 := hQ.cell 0 _ rfl; have q1 := hQ.cell 1 _ rfl; clear hb)
          obtain ⟨AH, ch, rfl⟩ := Kd.R_slice hv
          have HH := Aside0.mk (row_C hv).2
          clear hv
          go_wp2_with fail
          refine (hullAll_c A1 AX n (nf + 1) c1 cx bs (fs ++ [f]) _ (Kd.C_below H1.out HB.out) HX.out).mono ?_
          rintro e w11 ⟨v, rfl, hv, hb⟩
          have HH := Aside0.mk (Kd.C_below HH.out hb)
          (have HB := Aside0.mk (bstep' HB.out hb); have hP := Cls.below hP hb; have hQ := Cls.below hQ hb; have hG := Cls.below hG hb; have HX := Aside0.mk (Kd.C_below HX.out hb); (try clear e0 e1 q0 q1); have e0 := hP.cell 0 _ rfl; have e1 := hP.cell 1 _ rfl; have q0 := hQ.cell 0 _ rfl; have q1 := hQ.cell 1 _ rfl; clear hb)
          obtain ⟨AJ, cj, rfl⟩ := Kd.R_slice hv
          have HJ := Aside0.mk (row_C hv).2
          clear hv
          have hh := HHL.out
          have g0 := hG.cell 0 _ rfl
          have g1 := hG.cell 1 _ rfl
          have g2 := hG.cell 2 _ rfl
          have g3 := hG.cell 3 _ rfl
          have g4 := hG.cell 4 _ rfl
          have g5 := hG.cell 5 _ rfl
          have g6 := hG.cell 6 _ rfl
          have g7 := hG.cell 7 _ rfl
          have g8 := hG.cell 8 _ rfl
          generalize (hullP ⟨bs, fs⟩).1 = a at *
          generalize (hullP ⟨bs, fs⟩).2 = I at *
          generalize (hullP ⟨bs, fs ++ [f]⟩).1 = b at *
          generalize (hullP ⟨bs, fs ++ [f]⟩).2 = J at *
          rcases hh with hI | ⟨hI, hJ, hsb⟩
          · rcases hI with hI | ⟨hI, hJ⟩
            all_goals
              go_wp2_with fail
              refine (decide_c A1 A2 n nf c1 c2 bs fs g _ (Kd.C_below H1.out HB.out) (Kd.C_below H2.out HB.out)).mono ?_
              rintro e w20 ⟨rfl, hb⟩
              (have HB := Aside0.mk (bstep' HB.out hb); have hP := Cls.below hP hb; have hQ := Cls.below hQ hb; have hG := Cls.below hG hb; have HX := Aside0.mk (Kd.C_below HX.out hb); (try clear e0 e1 q0 q1); have e0 := hP.cell 0 _ rfl; have e1 := hP.cell 1 _ rfl; have q0 := hQ.cell 0 _ rfl; have q1 := hQ.cell 1 _ rfl; clear hb)
              clear g0 g1 g2 g3 g4 g5 g6 g7 g8
              have g0 := hG.cell 0 _ rfl
              have g1 := hG.cell 1 _ rfl
              have g2 := hG.cell 2 _ rfl
              have g3 := hG.cell 3 _ rfl
              have g4 := hG.cell 4 _ rfl
              have g5 := hG.cell 5 _ rfl
              have g6 := hG.cell 6 _ rfl
              have g7 := hG.cell 7 _ rfl
              have g8 := hG.cell 8 _ rfl
              have hd := HDD.out
              generalize (decideP ⟨bs, fs⟩ g).1 = x at *
              generalize (decideP ⟨bs, fs⟩ g).2 = c at *
              have HDX := Aside0.mk hd
              clear hd
              go_wp2_with fail
              refine (decide_c A1 AX n (nf + 1) c1 cx bs (fs ++ [f]) g _ (Kd.C_below H1.out HB.out) HX.out).mono ?_
              rintro e w21 ⟨rfl, hb⟩
              have HB := Aside0.mk (bstep' HB.out hb)
              have hd := HDX.out
              clear hb hP hQ hG HX e0 e1 q0 q1 g0 g1 g2 g3 g4 g5 g6 g7 g8
              generalize (decideP ⟨bs, fs ++ [f]⟩ g).1 = y at *
              generalize (decideP ⟨bs, fs ++ [f]⟩ g).2 = d at *
              rcases hd with hc0 | ⟨hc0, hd0⟩ | ⟨hc0, hd0, hx0⟩ | ⟨hc0, hd0, hx0, hy0⟩
              all_goals (go_wp2_with fail; go_ret; exact ⟨by simp [*], HB.out⟩)
          · have HSL := Aside0.mk hsb
            have hlb : b.length = a.length := hsb.len
            have han : a.length ≤ 9223372036854775807 := HH.out.2.1
            have HLB := Aside0.mk hlb
            rw [hlb] at HJ ⊢
            generalize hLL : a.length = L at *
            have HLL := Aside0.mk hLL
            clear hlb hsb hLL
            go_wp2_with fail
            clear e0 e1 q0 q1 g0 g1 g2 g3 g4 g5 g6 g7 g8
            go_loopg [17] L (fun m cnt wr => ∃ k : Nat, k + m = L ∧ cnt = .int .i64 k ∧ Aside0 (Below w11.heap.size w11 wr))
            case atStart => exact ⟨0, by omega, rfl, ⟨Below.refl _ _⟩⟩
            case round =>
              obtain ⟨k, hk, rfl, HK⟩ := hrel
              by_cases hlt : k < L
              · obtain ⟨br, offr, rfl, hbr, x0, x1, x2, x3⟩ := at_Bx (Kd.C_below HJ.out HK.out) (k : Int) (by omega) (by omega)
                obtain ⟨bl, offl, rfl, hbl, y0, y1, y2, y3⟩ := at_Bx (Kd.C_below HH.out HK.out) (k : Int) (by omega) (by omega)
                simp only [Int.toNat_natCast] at x0 x1 x2 x3 y0 y1 y2 y3
                have hli : liesB (rBx b (k : Int)) (rBx a (k : Int)) = true := lies_of (HSL.out.at_ k (by first | (rw [HLB.out]; exact hlt) | (rw [HLB.out, HLL.out]; exact hlt)))
                go_wp2_with fail
                (refine wp_region_quiet (C := fun w' => ∃ t : Later _, w' = t.w) (by kernel_rfl) (by kernel_rfl) (IsLater.drew _) ?_; (repeat (first | go_big_quiet_step ((go_at_call 18; exact later_of (lies_c (rBx b (k : Int)) (rBx a (k : Int)) _))) | quiet_step ((go_at_call 18; exact later_of (lies_c (rBx b (k : Int)) (rBx a (k : Int)) _))))); refine wpQuiet_nil ?_; rintro _ ⟨tq, rfl⟩)
                rw [hli]
                go_wp2_with fail
                go_roundg (gk - 1)
                case measure => omega
                case rel => exact ⟨k + 1, by omega, by go_num, ⟨bstep' HK.out tq.h⟩⟩
              · have hb := HK.out
                (have HB := Aside0.mk (bstep' HB.out hb); have hP := Cls.below hP hb; have hQ := Cls.below hQ hb; have hG := Cls.below hG hb; have HX := Aside0.mk (Kd.C_below HX.out hb); (try clear e0 e1 q0 q1); have e0 := hP.cell 0 _ rfl; have e1 := hP.cell 1 _ rfl; have q0 := hQ.cell 0 _ rfl; have q1 := hQ.cell 1 _ rfl; clear hb)
                have g0 := hG.cell 0 _ rfl
                have g1 := hG.cell 1 _ rfl
                have g2 := hG.cell 2 _ rfl
                have g3 := hG.cell 3 _ rfl
                have g4 := hG.cell 4 _ rfl
                have g5 := hG.cell 5 _ rfl
                have g6 := hG.cell 6 _ rfl
                have g7 := hG.cell 7 _ rfl
                have g8 := hG.cell 8 _ rfl
                go_wp2_with fail
                refine (decide_c A1 A2 n nf c1 c2 bs fs g _ (Kd.C_below H1.out HB.out) (Kd.C_below H2.out HB.out)).mono ?_
                rintro e w20 ⟨rfl, hb⟩
                (have HB := Aside0.mk (bstep' HB.out hb); have hP := Cls.below hP hb; have hQ := Cls.below hQ hb; have hG := Cls.below hG hb; have HX := Aside0.mk (Kd.C_below HX.out hb); (try clear e0 e1 q0 q1); have e0 := hP.cell 0 _ rfl; have e1 := hP.cell 1 _ rfl; have q0 := hQ.cell 0 _ rfl; have q1 := hQ.cell 1 _ rfl; clear hb)
                clear g0 g1 g2 g3 g4 g5 g6 g7 g8
                have g0 := hG.cell 0 _ rfl
                have g1 := hG.cell 1 _ rfl
                have g2 := hG.cell 2 _ rfl
                have g3 := hG.cell 3 _ rfl
                have g4 := hG.cell 4 _ rfl
                have g5 := hG.cell 5 _ rfl
                have g6 := hG.cell 6 _ rfl
                have g7 := hG.cell 7 _ rfl
                have g8 := hG.cell 8 _ rfl
                have hd := HDD.out
                generalize (decideP ⟨bs, fs⟩ g).1 = x at *
                generalize (decideP ⟨bs, fs⟩ g).2 = c at *
                have HDX := Aside0.mk hd
                clear hd
                go_wp2_with fail
                refine (decide_c A1 AX n (nf + 1) c1 cx bs (fs ++ [f]) g _ (Kd.C_below H1.out HB.out) HX.out).mono ?_
                rintro e w21 ⟨rfl, hb⟩
                have HB := Aside0.mk (bstep' HB.out hb)
                have hd := HDX.out
                clear hb hP hQ hG HX e0 e1 q0 q1 g0 g1 g2 g3 g4 g5 g6 g7 g8
                generalize (decideP ⟨bs, fs ++ [f]⟩ g).1 = y at *
                generalize (decideP ⟨bs, fs ++ [f]⟩ g).2 = d at *
                rcases hd with hc0 | ⟨hc0, hd0⟩ | ⟨hc0, hd0, hx0⟩ | ⟨hc0, hd0, hx0, hy0⟩
                all_goals (go_wp2_with fail; go_ret; exact ⟨by simp [*], HB.out⟩)
end Go.Proofs.Ytkkimlicabbooaa
