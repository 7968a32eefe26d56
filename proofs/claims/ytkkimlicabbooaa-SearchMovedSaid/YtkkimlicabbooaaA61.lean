/-
  moved of the law.
-/
import Derived.Test.YtkkimlicabbooaaB3
import Derived.Test.YtkkimlicabbooaaPlain28
import Derived.Test.YtkkimlicabbooaaL0
namespace Go.Proofs.Ytkkimlicabbooaa
open Go.RowKit Go.Proofs.YtkkimlicabbooaaW.PrintWords Go.Proofs.YtkkimlicabbooaaW.PrintLast Bs
attribute [local go_sem] Later.cell? Later.frozen?
set_option linter.unusedVariables false
set_option linter.unusedSimpArgs false

/-- The problem that moved makes: its cells and rows. -/
structure MK (W3 : World) (bO : Nat) (v1 v2 : Value) (xs : List Bx) (ys : List Fct) (wr : World) : Prop where
  c0 : wr.cell? ⟨bO, 0, none⟩ = some v1
  c1 : wr.cell? ⟨bO, 1, none⟩ = some v2
  R1 : kBx.R 42 wr W3.heap.size (fun j => j ≠ bO) v1 xs
  R2 : kFct.R 33 wr W3.heap.size (fun j => j ≠ bO) v2 ys
  T : Ty wr bO 25 2
  B : Below W3.heap.size W3 wr
  b : bO = W3.heap.size
section
variable {W3 W W2 : World} {bO : Nat} {v1 v2 v : Value} {xs : List Bx} {ys : List Fct}
theorem MK.below (h : MK W3 bO v1 v2 xs ys W) (hb : Below W.heap.size W W2) : MK W3 bO v1 v2 xs ys W2 :=
  ⟨(hb.cell (p := ⟨bO, 0, none⟩) (cell_lt h.c0)).trans h.c0, (hb.cell (p := ⟨bO, 1, none⟩) (cell_lt h.c1)).trans h.c1, Kd.R_below h.R1 hb, Kd.R_below h.R2 hb, h.T.below hb, bstep' h.B hb, h.b⟩
theorem MK.own1 (h : MK W3 bO v1 v2 xs ys W) : ∀ k, v1.ownBlock = some k → W3.heap.size ≤ k := fun k hk => ((Kd.R_bound h.R1).1 k hk).2.1
theorem MK.own2 (h : MK W3 bO v1 v2 xs ys W) : ∀ k, v2.ownBlock = some k → W3.heap.size ≤ k := fun k hk => ((Kd.R_bound h.R2).1 k hk).2.1
theorem MK.push1 (h : MK W3 bO v1 v2 xs ys W) {x : Bx} (hR : kBx.R 42 W2 W3.heap.size (fun j => j ≠ bO) v (xs ++ [x])) (hg : W.grownBy W2 v1.ownBlock) : MK W3 bO v v2 (xs ++ [x]) ys (W2.setCell ⟨bO, 0, none⟩ v) :=
  have hne : some bO ≠ v1.ownBlock := fun e => h.R1.1 _ e.symm rfl
  have hB : Below W3.heap.size W3 W2 := h.B.grown hg h.B.size h.own1
  ⟨World.cell?_setCell_same' _ _ _ (by rw [cell_grown hg h.c0 hne]; rfl), cell_other (cell_grown hg h.c1 hne) (by simp), Kd.R_far (p := ⟨bO, 0, none⟩) hR (fun _ hk => hk) _, Kd.R_far (p := ⟨bO, 0, none⟩) (Kd.R_over h.R2 h.R1 (by decide) hg) (fun _ hk => hk) _, (h.T.block (hg.block _ h.T.lt hne)).set, hB.setCell (by have := h.b; dsimp only; omega) _, h.b⟩
theorem MK.push2 (h : MK W3 bO v1 v2 xs ys W) {x : Fct} (hR : kFct.R 33 W2 W3.heap.size (fun j => j ≠ bO) v (ys ++ [x])) (hg : W.grownBy W2 v2.ownBlock) : MK W3 bO v1 v xs (ys ++ [x]) (W2.setCell ⟨bO, 1, none⟩ v) :=
  have hne : some bO ≠ v2.ownBlock := fun e => h.R2.1 _ e.symm rfl
  have hB : Below W3.heap.size W3 W2 := h.B.grown hg h.B.size h.own2
  ⟨cell_other (cell_grown hg h.c0 hne) (by simp), World.cell?_setCell_same' _ _ _ (by rw [cell_grown hg h.c1 hne]; rfl), Kd.R_far (p := ⟨bO, 1, none⟩) (Kd.R_over h.R1 h.R2 (by decide) hg) (fun _ hk => hk) _, Kd.R_far (p := ⟨bO, 1, none⟩) hR (fun _ hk => hk) _, (h.T.block (hg.block _ h.T.lt hne)).set, hB.setCell (by have := h.b; dsimp only; omega) _, h.b⟩
end
section
variable {P : Program} {o : Oper} {a : Act} {Q : Exit → Act → World → Prop} {Kc : Act → World → Prop} {α : Type}
/-- append(v, x), x's cells lying at block q; the operation alone. -/
theorem app_wp (d : Kd α) {w0 W : World} (base : Nat) (hg : o.guard = none) (s x : Operand) (t e : TypeId) (z : Value) (bytes : Nat)
    (ho : o.op = .call { callee := .builtin .append, args := #[s, x], argTypes := #[t, t] })
    (ht : P.underlying t = some (.slice e)) (hinfo : (P.info? e).map (fun i => (i.zero, i.size, i.bytes)) = some (some z, d.sz, bytes)) (hz : z.cells.size = d.sz) (hs0 : 0 < d.sz) (hb0 : 0 < bytes)
    (v : Value) (xs : List α) (p : α) (cs : List Value) (ok okp : Nat → Prop) (hs : a.eval s = v) (q : Nat) (hx : a.eval x = .slice (some ⟨q, 0, none⟩) 1 1) (hq : ∀ j u, cs[j]? = some u → W.cell? ⟨q, j, none⟩ = some u)
    (hp : d.M W base okp p cs) (hokp : ∀ k, okp k → ok k ∧ some k ≠ v.ownBlock) (hfresh : ∀ k, W.heap.size ≤ k → ok k)
    (HO : d.R e W base ok v xs) (HB : Below base w0 W) (hbase : base ≤ W.heap.size) (hl : (xs.length + 1) * bytes ≤ 140737488355328)
    (h : ∀ v1 w1, d.R e w1 base ok v1 (xs ++ [p]) → Below base w0 w1 → W.grownBy w1 v.ownBlock → Kc (a.put o.dst v1) w1) : Oper.wp P o a W Kc Q := by
  have hw : Region.wanted o (yielded #[] a.tmps) = true := by unfold Region.wanted; rw [hg]
  have := app_step (ops := #[]) (Q := Q) d base hw s x t e z bytes ho ht hinfo hz hs0 hb0 v xs p cs ok okp hs q hx hq hp hokp hfresh HO HB hbase hl h
  rwa [if_pos hw] at this
end
theorem mv_step {v : Pt} {bs : List Bx} {k : Nat} (h : k < bs.length) : mvL v (bs.take (k + 1)) = mvL v (bs.take k) ++ [mvB v (rBx bs (k : Int))] := by
  unfold mvL
  rw [rBx_nat]
  exact (map_take_snoc (mvB v) h).symm
theorem rev_step {fs : List Fct} {k : Nat} (h : k < fs.length) : (fs.drop k).reverse = (fs.drop (k + 1)).reverse ++ [rFct fs (k : Int)] := by
  rw [drop_get (z := ⟨0, 0, false, 0, 0, 0, ⟨0, 0⟩, 0⟩) h, List.reverse_cons, rFct_nat]
/-- The coordinates are small. -/
def Mild (bs : List Bx) : Prop := ∀ k : Nat, k < bs.length → (-1099511627776 ≤ (rBx bs k).x.lo ∧ (rBx bs k).x.lo ≤ 1099511627776) ∧ (-1099511627776 ≤ (rBx bs k).x.hi ∧ (rBx bs k).x.hi ≤ 1099511627776) ∧ (-1099511627776 ≤ (rBx bs k).y.lo ∧ (rBx bs k).y.lo ≤ 1099511627776) ∧ (-1099511627776 ≤ (rBx bs k).y.hi ∧ (rBx bs k).y.hi ≤ 1099511627776)

theorem SB_grown {p : Nat → Prop} {W w1 w2 : World} {r : Option Nat} (h : (∀ b o, b < W.heap.size → p b → w1.cell? ⟨b, o, none⟩ = W.cell? ⟨b, o, none⟩) ∧ W.heap.size ≤ w1.heap.size) (hg : w1.grownBy w2 r) (hp : ∀ b, p b → ¬ some b = r) :
    (∀ b o, b < W.heap.size → p b → w2.cell? ⟨b, o, none⟩ = W.cell? ⟨b, o, none⟩) ∧ W.heap.size ≤ w2.heap.size :=
  ⟨fun b o hl hpb => (World.cell?_of_block (a := ⟨b, o, none⟩) (hg.block b (Nat.lt_of_lt_of_le hl h.2) (hp b hpb))).trans (h.1 b o hl hpb), Nat.le_trans h.2 hg.size⟩

set_option maxHeartbeats 3200000 in
set_option maxRecDepth 100000 in
theorem moved_c (A1 A2 : Option Addr) (n nf c1 c2 : Nat) (bs : List Bx) (fs : List Fct) (v : Pt) (w : World) (h1 : kBx.C w A1 n bs) (h2 : kFct.C w A2 nf fs) (hn : n ≤ 1000) (hnf : nf ≤ 1000) (hm : Mild bs)
    (hx : -1099511627776 ≤ v.x ∧ v.x ≤ 1099511627776) (hy : -1099511627776 ≤ v.y ∧ v.y ≤ 1099511627776) :
    Calls Try.prog 21 #[.agg #[.slice A1 n c1, .slice A2 nf c2], .agg #[.int .i64 v.x, .int .i64 v.y]] w fun e w' => ∃ v1 v2, e = .returned (.agg #[v1, v2]) ∧ kBx.R 42 w' w.heap.size (fun _ => True) v1 (mvL v bs) ∧ kFct.R 33 w' w.heap.size (fun _ => True) v2 fs.reverse ∧ Below w.heap.size w w' := by
  have H1 := Aside0.mk h1
  have H2 := Aside0.mk h2
  have HM := Aside0.mk hm
  have HL1 := Aside0.mk h1.1
  have HL2 := Aside0.mk h2.1
  clear h1 h2 hm
  go_enter Try.func21, Try.ntmps21
  go_wp2_with fail
  generalize hW : (((w.alloc _).alloc _).alloc _ : World) = W
  have hP : Cls W w.heap.size #[.slice A1 n c1, .slice A2 nf c2] 25 := by subst hW; exact (by repeat (first | (with_reducible assumption) | (exact Cls.new3 (by first | (simp; done) | (simp; omega) | omega)) | (with_reducible refine Cls.old ?_) | (refine Cls.set ?_ (by first | (dsimp only; omega) | (simp; omega) | simp)) | (with_reducible refine Cls.drew ?_) | (with_reducible refine Cls.below ?_ (by assumption))))
  have hV : Cls W (w.heap.size + 1) #[.int .i64 v.x, .int .i64 v.y] 49 := by subst hW; exact (by repeat (first | (with_reducible assumption) | (exact Cls.new3 (by first | (simp; done) | (simp; omega) | omega)) | (with_reducible refine Cls.old ?_) | (refine Cls.set ?_ (by first | (dsimp only; omega) | (simp; omega) | simp)) | (with_reducible refine Cls.drew ?_) | (with_reducible refine Cls.below ?_ (by assumption))))
  have hTR : Ty W (w.heap.size + 1 + 1) 25 2 := by subst hW; exact (by repeat (first | (with_reducible assumption) | (exact Ty.new3 (by first | (simp; done) | (simp; omega) | omega)) | (with_reducible refine Ty.old ?_) | (with_reducible refine Ty.set ?_) | (with_reducible refine Ty.drew ?_) | (with_reducible refine Ty.below ?_ (by assumption))))
  have r0 : W.cell? ⟨w.heap.size + 1 + 1, 0, none⟩ = some (.slice none 0 0) := by subst hW; go_simp
  have r1 : W.cell? ⟨w.heap.size + 1 + 1, 1, none⟩ = some (.slice none 0 0) := by subst hW; go_simp
  have HB := Aside0.mk (show Below w.heap.size w W by subst hW; exact (by repeat (first | (with_reducible exact Below.refl _ _) | (with_reducible exact HB.out) | (with_reducible assumption) | (with_reducible apply below_alloc) | (with_reducible apply below_drew) | (with_reducible apply pw_below_drewN) | (with_reducible refine bstep' ?_ (by assumption)) | ((with_reducible refine Below.setCell ?_ ?_ _); rotate_left; (first | (dsimp only; omega) | (simp; done) | (simp; omega) | omega)))))
  have hz : W.heap.size = w.heap.size + 1 + 1 + 1 := by subst hW; simp
  clear hW
  have HZ := Aside0.mk (show w.heap.size + 1 + 1 + 1 = W.heap.size from hz.symm)
  have HQ0 := Aside0.mk (Cls.new3 (W := W) (cs := #[.slice none 0 0, .slice none 0 0]) (t := 25) hz.symm)
  have HP0 := Aside0.mk hP
  have HV0 := Aside0.mk hV
  have HTR := Aside0.mk hTR
  have HR0 := Aside0.mk r0
  have HR1 := Aside0.mk r1
  have hb0 : w.heap.size < W.heap.size := by omega
  have hb1 : w.heap.size + 1 < W.heap.size := by omega
  have hb2 : w.heap.size + 1 + 1 < W.heap.size := by omega
  have e0 := hP.cell 0 _ rfl
  have e1 := hP.cell 1 _ rfl
  clear hP hV hTR r0 r1 hz
  go_wp2_with fail
  go_loopg [6] n (fun m cnt wr => ∃ (k : Nat) (v1 : Value), k + m = n ∧ cnt = .int .i64 k ∧ Aside0 (MK W (w.heap.size + 1 + 1 + 1) v1 (.slice none 0 0) (mvL v (bs.take k)) [] wr))
  case atStart => exact ⟨0, .slice none 0 0, by omega, rfl, ⟨⟨HQ0.out.cell 0 _ rfl, HQ0.out.cell 1 _ rfl, Kd.R_nil _ _ _ _ _, Kd.R_nil _ _ _ _ _, Ty.new3 HZ.out, (by repeat (first | (with_reducible exact Below.refl _ _) | (with_reducible exact HB.out) | (with_reducible assumption) | (with_reducible apply below_alloc) | (with_reducible apply below_drew) | (with_reducible apply pw_below_drewN) | (with_reducible refine bstep' ?_ (by assumption)) | ((with_reducible refine Below.setCell ?_ ?_ _); rotate_left; (first | (dsimp only; omega) | (simp; done) | (simp; omega) | omega)))), HZ.out⟩⟩⟩
  case round =>
    obtain ⟨k, v1, hk, rfl, HP⟩ := hrel
    clear e0 e1
    have hPw := Cls.below HP0.out HP.out.B
    have hVw := Cls.below HV0.out HP.out.B
    have e0 := hPw.cell 0 _ rfl
    have e1 := hPw.cell 1 _ rfl
    have c0 := HP.out.c0
    have c1 := HP.out.c1
    have hls := HP.out.T.lt
    have hls0 : w.heap.size < wr.heap.size := by omega
    have hls2 : w.heap.size + 1 + 1 < wr.heap.size := by omega
    have hls1 : w.heap.size + 1 < wr.heap.size := by omega
    by_cases hl : k < n
    · obtain ⟨b', off, rfl, hb', x0, x1, x2, x3⟩ := at_Bx (Kd.C_below H1.out (bstep' HB.out HP.out.B)) (k : Int) (by omega) (by omega)
      simp only [Int.toNat_natCast] at x0 x1 x2 x3
      have y0 := hVw.cell 0 _ rfl
      have y1 := hVw.cell 1 _ rfl
      obtain ⟨⟨ma, mb⟩, ⟨mc, md⟩, ⟨me, mf⟩, ⟨mg, mh⟩⟩ := HM.out k (by have := HL1.out; omega)
      have HST := Aside0.mk (mv_step (v := v) (bs := bs) (k := k) (by have := HL1.out; omega))
      generalize hbx : rBx bs (k : Int) = b at *
      clear hbx
      obtain ⟨xs, hxs⟩ : ∃ xs, xs = mvL v (bs.take k) := ⟨_, rfl⟩
      have HLX := Aside0.mk (show xs.length ≤ k by rw [hxs, mvL_length]; simp; omega)
      rw [← hxs] at HP HST
      clear hxs
      have HP4 := Aside0.mk (HP.out.below (W2 := wr.alloc (.cells #[.int .i64 b.x.lo, .int .i64 b.x.hi, .int .i64 b.y.lo, .int .i64 b.y.hi] 42)) (by repeat (first | (with_reducible exact Below.refl _ _) | (with_reducible exact HB.out) | (with_reducible assumption) | (with_reducible apply below_alloc) | (with_reducible apply below_drew) | (with_reducible apply pw_below_drewN) | (with_reducible refine bstep' ?_ (by assumption)) | ((with_reducible refine Below.setCell ?_ ?_ _); rotate_left; (first | (dsimp only; omega) | (simp; done) | (simp; omega) | omega)))))
      have HLS := Aside0.mk hls
      have hfz := frozen_ty HP4.out.T
      go_wp2_with (at_builtin; go_loud (refine Kd.R_append kBx (w0 := W) W.heap.size rfl _ _ 22 42 (.agg #[.int .i64 0, .int .i64 0, .int .i64 0, .int .i64 0]) 32 rfl Try.underlying22 infoBx rfl (by decide) (by omega) v1 xs (mvB v b) (encBx (mvB v b)) (fun j => j ≠ w.heap.size + 1 + 1 + 1) (fun _ => False) rfl (by rw [World.size_alloc]; rfl) rfl (fun _ h => h.elim) (fun j hj => ?aF) (Kd.R_below HP4.out.R1 (by repeat (first | (with_reducible exact Below.refl _ _) | (with_reducible exact HB.out) | (with_reducible assumption) | (with_reducible apply below_alloc) | (with_reducible apply below_drew) | (with_reducible apply pw_below_drewN) | (with_reducible refine bstep' ?_ (by assumption)) | ((with_reducible refine Below.setCell ?_ ?_ _); rotate_left; (first | (dsimp only; omega) | (simp; done) | (simp; omega) | omega))))) ?aB ?aS ?aL ?_; (case aF => have h5 := HLS.out; simp at hj; omega); (case aB => exact (HP4.out.below (by repeat (first | (with_reducible exact Below.refl _ _) | (with_reducible exact HB.out) | (with_reducible assumption) | (with_reducible apply below_alloc) | (with_reducible apply below_drew) | (with_reducible apply pw_below_drewN) | (with_reducible refine bstep' ?_ (by assumption)) | ((with_reducible refine Below.setCell ?_ ?_ _); rotate_left; (first | (dsimp only; omega) | (simp; done) | (simp; omega) | omega))))).B); (case aS => have h5 := HLS.out; have h6 := HZ.out; simp; omega); (case aL => have := HLX.out; omega); intro v2 w9 hv2 hb9 hg9 hat9; have HP9 := Aside0.mk (MK.push1 (HP4.out.below (by repeat (first | (with_reducible exact Below.refl _ _) | (with_reducible exact HB.out) | (with_reducible assumption) | (with_reducible apply below_alloc) | (with_reducible apply below_drew) | (with_reducible apply pw_below_drewN) | (with_reducible refine bstep' ?_ (by assumption)) | ((with_reducible refine Below.setCell ?_ ?_ _); rotate_left; (first | (dsimp only; omega) | (simp; done) | (simp; omega) | omega))))) hv2 hg9); have hne : some (w.heap.size + 1 + 1 + 1) ≠ v1.ownBlock := (fun e => HP4.out.R1.1 _ e.symm rfl); have o9 := cell_grown hg9 (HP4.out.below (by repeat (first | (with_reducible exact Below.refl _ _) | (with_reducible exact HB.out) | (with_reducible assumption) | (with_reducible apply below_alloc) | (with_reducible apply below_drew) | (with_reducible apply pw_below_drewN) | (with_reducible refine bstep' ?_ (by assumption)) | ((with_reducible refine Below.setCell ?_ ?_ _); rotate_left; (first | (dsimp only; omega) | (simp; done) | (simp; omega) | omega))))).c0 hne; have o8 := cell_grown hg9 (HP4.out.below (by repeat (first | (with_reducible exact Below.refl _ _) | (with_reducible exact HB.out) | (with_reducible assumption) | (with_reducible apply below_alloc) | (with_reducible apply below_drew) | (with_reducible apply pw_below_drewN) | (with_reducible refine bstep' ?_ (by assumption)) | ((with_reducible refine Below.setCell ?_ ?_ _); rotate_left; (first | (dsimp only; omega) | (simp; done) | (simp; omega) | omega))))).c1 hne; have hf9 := frozen_ty ((HP4.out.below (by repeat (first | (with_reducible exact Below.refl _ _) | (with_reducible exact HB.out) | (with_reducible assumption) | (with_reducible apply below_alloc) | (with_reducible apply below_drew) | (with_reducible apply pw_below_drewN) | (with_reducible refine bstep' ?_ (by assumption)) | ((with_reducible refine Below.setCell ?_ ?_ _); rotate_left; (first | (dsimp only; omega) | (simp; done) | (simp; omega) | omega))))).T.block (hg9.block _ (HP4.out.below (by repeat (first | (with_reducible exact Below.refl _ _) | (with_reducible exact HB.out) | (with_reducible assumption) | (with_reducible apply below_alloc) | (with_reducible apply below_drew) | (with_reducible apply pw_below_drewN) | (with_reducible refine bstep' ?_ (by assumption)) | ((with_reducible refine Below.setCell ?_ ?_ _); rotate_left; (first | (dsimp only; omega) | (simp; done) | (simp; omega) | omega))))).T.lt hne)); obtain ⟨A12, c12, e12⟩ := Kd.R_slice hv2; clear hv2; obtain ⟨LL, hLL⟩ : ∃ x, x = (xs ++ [mvB v b]).length := ⟨_, rfl⟩; rw [← hLL] at e12; clear hLL; subst e12))
      go_roundg (gk - 1)
      case measure => omega
      case rel => exact ⟨k + 1, _, by omega, by go_num, ⟨by rw [HST.out]; exact HP9.out⟩⟩
    · obtain rfl : gk = 0 := by omega
      obtain rfl : n = k := by omega
      rw [List.take_of_length_le (by have := HL1.out; omega)] at HP
      go_wp2_with fail
      obtain ⟨wo, rfl⟩ : ∃ u, u = wr := ⟨_, rfl⟩
      obtain ⟨vB, rfl⟩ : ∃ u, u = v1 := ⟨_, rfl⟩
      have HPo := HP
      have hl2 : fs.drop nf = [] := List.drop_of_length_le (by have := HL2.out; omega)
      go_loopg [8] nf (fun m cnt wr => ∃ (c : Int) (v2 : Value), m ≤ nf ∧ c + 1 = m ∧ cnt = .int .i64 c ∧ Aside0 (MK W (w.heap.size + 1 + 1 + 1) vB v2 (mvL v bs) (fs.drop m).reverse wr))
      case atStart => exact ⟨(nf : Int) - 1, .slice none 0 0, Nat.le_refl _, by omega, by go_num, ⟨by rw [hl2]; exact HPo.out⟩⟩
      case round =>
        clear hl2 e0 e1 c0 c1 hPw hVw HP HPo hls hls0 hls1 hls2
        obtain ⟨c, v2, hcn, hc, rfl, HP⟩ := hrel
        have hPw := Cls.below HP0.out HP.out.B
        have e0 := hPw.cell 0 _ rfl
        have e1 := hPw.cell 1 _ rfl
        have c0 := HP.out.c0
        have c1 := HP.out.c1
        have hls := HP.out.T.lt
        have hls0 : w.heap.size < wr.heap.size := by omega
        have hls1 : w.heap.size + 1 < wr.heap.size := by omega
        have hls2 : w.heap.size + 1 + 1 < wr.heap.size := by omega
        by_cases hlt : 0 ≤ c
        · obtain ⟨j, rfl⟩ := Int.eq_ofNat_of_zero_le hlt
          obtain rfl : gk = j + 1 := by omega
          have hjn : j < nf := by omega
          obtain ⟨b', off, rfl, hb', f0, f1, f2, f3, f4, f5, f6, f7, f8⟩ := at_Fct H2.out (j : Int) (by omega) (by omega)
          simp only [Int.toNat_natCast] at f0 f1 f2 f3 f4 f5 f6 f7 f8
          have hbb : Below w.heap.size w wr := bstep' HB.out HP.out.B
          have f0 := (hbb.cell (by exact hb')).trans f0
          have f1 := (hbb.cell (by exact hb')).trans f1
          have f2 := (hbb.cell (by exact hb')).trans f2
          have f3 := (hbb.cell (by exact hb')).trans f3
          have f4 := (hbb.cell (by exact hb')).trans f4
          have f5 := (hbb.cell (by exact hb')).trans f5
          have f6 := (hbb.cell (by exact hb')).trans f6
          have f7 := (hbb.cell (by exact hb')).trans f7
          have f8 := (hbb.cell (by exact hb')).trans f8
          clear hbb
          have hbw : b' < wr.heap.size := by omega
          have hbn : b' ≠ w.heap.size + 1 + 1 + 1 := by omega
          have hwn : w.heap.size ≠ w.heap.size + 1 + 1 + 1 := by omega
          have hv0 : ¬ some w.heap.size = v2.ownBlock := fun e => by have := HP.out.own2 _ e.symm; have := HZ.out; omega
          have hv1 : ¬ some b' = v2.ownBlock := fun e => by have := HP.out.own2 _ e.symm; have := HZ.out; omega
          have HST := Aside0.mk (rev_step (fs := fs) (k := j) (by have := HL2.out; omega))
          generalize hf : rFct fs (j : Int) = f at *
          clear hf
          obtain ⟨ys, hys⟩ : ∃ ys, ys = (fs.drop (j + 1)).reverse := ⟨_, rfl⟩
          have HLX := Aside0.mk (show ys.length ≤ nf by rw [hys]; simp; have := HL2.out; omega)
          rw [← hys] at HP HST
          clear hys
          have HLS := Aside0.mk hls
          have hfz := frozen_ty HP.out.T
          go_wp2_with fail
          (refine wp_region_last_drew (S := (fun w' => (∀ b o, b < wr.heap.size → w'.cell? ⟨b, o, none⟩ = wr.cell? ⟨b, o, none⟩) ∧ wr.heap.size ≤ w'.heap.size)) (ds := [8, 10]) (by kernel_rfl) ⟨fun _ _ _ => rfl, Nat.le_refl _⟩ (fun hHeld => ?_))
          (refine wpAnyLast_takeA (i := 0) (v := ?_) rfl (by kernel_rfl) (by kernel_rfl) (by kernel_rfl) (by kernel_rfl) (by kernel_rfl) (fun _ _ _ h => h) (Or.inl ⟨by rfl, ?_⟩) (by assumption) ?_; rotate_left; (focus ((intro w hSw; (try dsimp only at hSw); go_simp); (try with_reducible rfl))); (try simp only [Act.put, List.setIfInBounds_toArray, List.set_cons_zero, List.set_cons_succ]))
          (refine wpAnyLast_takeA (i := 1) (v := ?_) rfl (by kernel_rfl) (by kernel_rfl) (by kernel_rfl) (by kernel_rfl) (by kernel_rfl) (fun _ _ _ h => h) (Or.inl ⟨by rfl, ?_⟩) (by assumption) ?_; rotate_left; (focus ((intro w hSw; (try dsimp only at hSw); go_simp); (try with_reducible rfl))); (try simp only [Act.put, List.setIfInBounds_toArray, List.set_cons_zero, List.set_cons_succ]))
          (refine wpAnyLast_takeA (i := 2) (v := ?_) rfl (by kernel_rfl) (by kernel_rfl) (by kernel_rfl) (by kernel_rfl) (by kernel_rfl) (fun _ _ _ h => h) (Or.inl ⟨by rfl, ?_⟩) (by assumption) ?_; rotate_left; (focus ((intro w hSw; (try dsimp only at hSw); go_simp); (try with_reducible rfl))); (try simp only [Act.put, List.setIfInBounds_toArray, List.set_cons_zero, List.set_cons_succ]))
          (refine wpAnyLast_takeA (i := 3) (v := ?_) rfl (by kernel_rfl) (by kernel_rfl) (by kernel_rfl) (by kernel_rfl) (by kernel_rfl) (fun _ _ _ h => h) (Or.inl ⟨by rfl, ?_⟩) (by assumption) ?_; rotate_left; (focus ((intro w hSw; (try dsimp only at hSw); go_simp); (try with_reducible rfl))); (try simp only [Act.put, List.setIfInBounds_toArray, List.set_cons_zero, List.set_cons_succ]))
          (refine wpAnyLast_takeA (i := 4) (v := ?_) rfl (by kernel_rfl) (by kernel_rfl) (by kernel_rfl) (by kernel_rfl) (by kernel_rfl) (fun _ _ _ h => h) (Or.inl ⟨by rfl, ?_⟩) (by assumption) ?_; rotate_left; (focus ((intro w hSw; (try dsimp only at hSw); go_simp); (try with_reducible rfl))); (try simp only [Act.put, List.setIfInBounds_toArray, List.set_cons_zero, List.set_cons_succ]))
          (refine wpAnyLast_takeA (i := 5) (v := ?_) rfl (by kernel_rfl) (by kernel_rfl) (by kernel_rfl) (by kernel_rfl) (by kernel_rfl) (fun _ _ _ h => h) (Or.inl ⟨by rfl, ?_⟩) (by assumption) ?_; rotate_left; (focus ((intro w hSw; (try dsimp only at hSw); go_simp); (try with_reducible rfl))); (try simp only [Act.put, List.setIfInBounds_toArray, List.set_cons_zero, List.set_cons_succ]))
          (refine wpAnyLast_takeA (i := 6) (v := ?_) rfl (by kernel_rfl) (by kernel_rfl) (by kernel_rfl) (by kernel_rfl) (by kernel_rfl) (fun _ _ _ h => h) (Or.inl ⟨by rfl, ?_⟩) (by assumption) ?_; rotate_left; (focus ((intro w hSw; (try dsimp only at hSw); go_simp); (try with_reducible rfl))); (try simp only [Act.put, List.setIfInBounds_toArray, List.set_cons_zero, List.set_cons_succ]))
          (refine wpAnyLast_ready (rs := [7]) (by kernel_rfl) (by simp) ?_; refine AllReadyL.consA rfl (by decide) (fun K hK => ?_) AllReadyL.nil)
          (refine value_ (w1 := ?_) (v := ?_) (by rfl) rfl ?_ ?_; rotate_left 2; (focus (go_simp; first | rfl | (constructor <;> rfl))))
          refine hK.out _ _ ⟨fun b o hl => ((below_alloc (Below.refl _ _) _).cell (p := ⟨b, o, none⟩) hl), by simp⟩ (fun hHeld => ?_)
          clear hK K
          (try simp only [Act.put, List.setIfInBounds_toArray, List.set_cons_zero, List.set_cons_succ])
          (refine wpAnyLast_ready (rs := [8]) (by kernel_rfl) (by simp) ?_; refine AllReadyL.cons_lastA rfl (by decide) (fun K hK => ?_) AllReadyL.nil)
          rw [if_pos (by rfl)]
          refine app_wp kFct (w0 := W) W.heap.size ?hg (.tmp 62) (.tmp 68) 23 33 (.agg #[.int .i64 0, .int .i64 0, .bool false, .int .i64 0, .int .i64 0, .int .i64 0, .int .i64 0, .int .i64 0, .int .i64 0]) 72 ?ho ?ht ?hi ?hz ?h0 ?hb v2 ys f [.int .i64 f.id, .int .i64 f.kind, .bool f.no, .int .i64 f.a, .int .i64 f.b, .int .i64 f.c, .int .i64 f.span.lo, .int .i64 f.span.hi, .int .i64 f.quarter] (fun j => j ≠ w.heap.size + 1 + 1 + 1) (fun _ => False) ?hs wr.heap.size ?hx ?aQ ?hp (fun _ h => h.elim) (fun k hk => ?aF) ?HO ?HB ?aS ?aL ?_
          case hg => rfl
          case ho => rfl
          case ht => exact Try.underlying23
          case hi => exact infoFct
          case hz => rfl
          case h0 => decide
          case hb => omega
          case hs => simp [Act.eval]
          case hx => simp [Act.eval]
          case hp => rfl
          case HO => exact (Kd.R_below HP.out.R2 (by repeat (first | (with_reducible exact Below.refl _ _) | (with_reducible exact HB.out) | (with_reducible assumption) | (with_reducible apply below_alloc) | (with_reducible apply below_drew) | (with_reducible apply pw_below_drewN) | (with_reducible refine bstep' ?_ (by assumption)) | ((with_reducible refine Below.setCell ?_ ?_ _); rotate_left; (first | (dsimp only; omega) | (simp; done) | (simp; omega) | omega)))))
          case HB => exact (bstep' HP.out.B (by repeat (first | (with_reducible exact Below.refl _ _) | (with_reducible exact HB.out) | (with_reducible assumption) | (with_reducible apply below_alloc) | (with_reducible apply below_drew) | (with_reducible apply pw_below_drewN) | (with_reducible refine bstep' ?_ (by assumption)) | ((with_reducible refine Below.setCell ?_ ?_ _); rotate_left; (first | (dsimp only; omega) | (simp; done) | (simp; omega) | omega)))))
          case aQ => intro j u hu; rcases j with _ | _ | _ | _ | _ | _ | _ | _ | _ | j <;> simp at hu <;> subst hu <;> go_simp
          case aF => have h5 := HLS.out; simp at hk; omega
          case aS => have h5 := HLS.out; have h6 := HZ.out; simp; omega
          case aL => have := HLX.out; omega
          intro v3 w9 hv3 hb9 hg9
          have HP9 := Aside0.mk (MK.push2 (HP.out.below (by repeat (first | (with_reducible exact Below.refl _ _) | (with_reducible exact HB.out) | (with_reducible assumption) | (with_reducible apply below_alloc) | (with_reducible apply below_drew) | (with_reducible apply pw_below_drewN) | (with_reducible refine bstep' ?_ (by assumption)) | ((with_reducible refine Below.setCell ?_ ?_ _); rotate_left; (first | (dsimp only; omega) | (simp; done) | (simp; omega) | omega))))) hv3 hg9)
          have hne : some (w.heap.size + 1 + 1 + 1) ≠ v2.ownBlock := (fun e => HP.out.R2.1 _ e.symm rfl)
          have o9 := cell_grown hg9 (HP.out.below (by repeat (first | (with_reducible exact Below.refl _ _) | (with_reducible exact HB.out) | (with_reducible assumption) | (with_reducible apply below_alloc) | (with_reducible apply below_drew) | (with_reducible apply pw_below_drewN) | (with_reducible refine bstep' ?_ (by assumption)) | ((with_reducible refine Below.setCell ?_ ?_ _); rotate_left; (first | (dsimp only; omega) | (simp; done) | (simp; omega) | omega))))).c0 hne
          have o8 := cell_grown hg9 (HP.out.below (by repeat (first | (with_reducible exact Below.refl _ _) | (with_reducible exact HB.out) | (with_reducible assumption) | (with_reducible apply below_alloc) | (with_reducible apply below_drew) | (with_reducible apply pw_below_drewN) | (with_reducible refine bstep' ?_ (by assumption)) | ((with_reducible refine Below.setCell ?_ ?_ _); rotate_left; (first | (dsimp only; omega) | (simp; done) | (simp; omega) | omega))))).c1 hne
          have hf9 := frozen_ty ((HP.out.below (by repeat (first | (with_reducible exact Below.refl _ _) | (with_reducible exact HB.out) | (with_reducible assumption) | (with_reducible apply below_alloc) | (with_reducible apply below_drew) | (with_reducible apply pw_below_drewN) | (with_reducible refine bstep' ?_ (by assumption)) | ((with_reducible refine Below.setCell ?_ ?_ _); rotate_left; (first | (dsimp only; omega) | (simp; done) | (simp; omega) | omega))))).T.block (hg9.block _ (HP.out.below (by repeat (first | (with_reducible exact Below.refl _ _) | (with_reducible exact HB.out) | (with_reducible assumption) | (with_reducible apply below_alloc) | (with_reducible apply below_drew) | (with_reducible apply pw_below_drewN) | (with_reducible refine bstep' ?_ (by assumption)) | ((with_reducible refine Below.setCell ?_ ?_ _); rotate_left; (first | (dsimp only; omega) | (simp; done) | (simp; omega) | omega))))).T.lt hne))
          obtain ⟨A12, c12, e12⟩ := Kd.R_slice hv3
          clear hv3
          obtain ⟨LL, hLL⟩ : ∃ x, x = (ys ++ [f]).length := ⟨_, rfl⟩
          rw [← hLL] at e12
          clear hLL
          subst e12
          refine hK.out _ _ ?_
          clear hK K
          (try simp only [Act.put, List.setIfInBounds_toArray, List.set_cons_zero, List.set_cons_succ])
          (refine wpAnyLast_pureA (i := 9) (v := ?_) rfl (by kernel_rfl) (by kernel_rfl) (by kernel_rfl) (fun _ _ _ h => h) (Or.inl ⟨by rfl, ?_⟩) ?_; rotate_left; (focus ((intro w; go_simp); (try with_reducible rfl))); (try simp only [Act.put, List.setIfInBounds_toArray, List.set_cons_zero, List.set_cons_succ]))
          (refine wpAnyLast_ready (rs := [10]) (by kernel_rfl) (by simp) ?_; refine AllReadyL.cons_lastA rfl (by decide) (fun K hK => ?_) AllReadyL.nil)
          (refine skip_ (w1 := ?_) (by rfl) rfl ?_ ?_; rotate_left; (focus (go_simp; (try rfl))))
          refine hK.out _ _ ?_
          clear hK K
          (try simp only [Act.put, List.setIfInBounds_toArray, List.set_cons_zero, List.set_cons_succ])
          (refine wpAnyLast_done (by kernel_rfl) ?_ _)
          go_wp2_with fail
          go_roundg j
          case measure => omega
          case rel => exact ⟨(j : Int) - 1, _, by omega, by omega, by go_num, ⟨by rw [HST.out]; exact HP9.out⟩⟩
        · obtain rfl : gk = 0 := by omega
          obtain rfl : c = -1 := by omega
          rw [List.drop_zero] at HP
          obtain ⟨A13, c13, e13⟩ := Kd.R_slice HP.out.R1
          obtain ⟨A14, c14, e14⟩ := Kd.R_slice HP.out.R2
          obtain ⟨L1, hL1⟩ : ∃ x, x = (mvL v bs).length := ⟨_, rfl⟩
          obtain ⟨L2, hL2⟩ : ∃ x, x = fs.reverse.length := ⟨_, rfl⟩
          rw [← hL1] at e13
          rw [← hL2] at e14
          subst e13 e14
          clear hL1 hL2
          have hbw := HP.out.B
          have HTW := Aside0.mk (HTR.out.below hbw)
          have r0 := (hbw.cell (p := ⟨w.heap.size + 1 + 1, 0, none⟩) hb2).trans HR0.out
          have r1 := (hbw.cell (p := ⟨w.heap.size + 1 + 1, 1, none⟩) hb2).trans HR1.out
          have hfr := frozen_ty HTW.out
          have hbx := HB.out.trans (hbw.mono HB.out.size)
          have HV1 := Aside0.mk (Kd.R_mono (Kd.R_lower HP.out.R1 HB.out.size) (fun _ _ => trivial) : kBx.R 42 wr w.heap.size (fun _ => True) _ _)
          have HV2 := Aside0.mk (Kd.R_mono (Kd.R_lower HP.out.R2 HB.out.size) (fun _ _ => trivial) : kFct.R 33 wr w.heap.size (fun _ => True) _ _)
          have hne : w.heap.size + 1 + 1 ≠ w.heap.size + 1 + 1 + 1 := by omega
          clear hbw HP
          go_wp2_with fail
          exact bodyPost_ret (v := .agg #[.slice A13 L1 c13, .slice A14 L2 c14]) (by simp [results, Try.results21, go_sem, *]) rfl ⟨.slice A13 L1 c13, .slice A14 L2 c14, rfl, R_setTy (R_setTy HV1.out HTW.out pickB_types 0 _) HTW.out.set pickB_types 1 _, R_setTy (R_setTy HV2.out HTW.out withR_types 0 _) HTW.out.set withR_types 1 _, (by repeat (first | (with_reducible exact Below.refl _ _) | (with_reducible exact HB.out) | (with_reducible assumption) | (with_reducible apply below_alloc) | (with_reducible apply below_drew) | (with_reducible apply pw_below_drewN) | (with_reducible refine bstep' ?_ (by assumption)) | ((with_reducible refine Below.setCell ?_ ?_ _); rotate_left; (first | (dsimp only; omega) | (simp; done) | (simp; omega) | omega))))⟩
end Go.Proofs.Ytkkimlicabbooaa
