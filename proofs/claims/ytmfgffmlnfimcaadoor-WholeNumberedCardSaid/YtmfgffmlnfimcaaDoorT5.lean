/- The walk of WholeNumbered. -/
import Derived.Test.YtmfgffmlnfimcaaDoorT6
import Derived.Test.YtmfgffmlnfimcaaDoorM7
import Derived.Test.YtmfgffmlnfimcaaDoorAs
import Derived.BigQuiet
import Derived.BigRegion
namespace Go.Proofs.YtmfgffmlnfimcaaDoor
open Go Go.RowKit Go.Shelf Go.Sort Go.Deep

/-- The costs while they are numbered otherwise. -/
def genC (I : Inst) (F : Nat → Nat → Int) (a b : Nat) : Nat → Nat → Int := fun x y => if x < a ∨ (x = a ∧ y < b) then F x y else elt I x y
theorem genC_zero (I : Inst) (F : Nat → Nat → Int) (x y : Nat) : genC I F 0 0 x y = elt I x y := by unfold genC; rw [if_neg (by omega)]
theorem genC_step (I : Inst) (F : Nat → Nat → Int) (a b x y : Nat) : upd (genC I F a b) a (upd (genC I F a b a) b (F a b)) x y = genC I F a (b + 1) x y := by
  by_cases e : x = a
  · subst e
    rw [upd_same]
    by_cases e2 : y = b
    · subst e2; rw [upd_same]; unfold genC; rw [if_pos (by omega)]
    · rw [upd_other _ e2]; unfold genC
      by_cases h : y < b
      · rw [if_pos (by omega), if_pos (by omega)]
      · rw [if_neg (by omega), if_neg (by omega)]
  · rw [upd_other _ e]; unfold genC
    by_cases h : x < a
    · rw [if_pos (by omega), if_pos (by omega)]
    · rw [if_neg (by omega), if_neg (by omega)]
theorem genC_row (I : Inst) (F : Nat → Nat → Int) {n : Nat} (a x y : Nat) (hy : y < n) : genC I F a n x y = genC I F (a + 1) 0 x y := by
  unfold genC
  by_cases h : x < a + 1
  · rw [if_pos (by omega), if_pos (by omega)]
  · rw [if_neg (by omega), if_neg (by omega)]
theorem genC_all (I : Inst) (F : Nat → Nat → Int) {n : Nat} (x y : Nat) (hx : x < n) : genC I F n 0 x y = F x y := by unfold genC; rw [if_pos (by omega)]

theorem addr_add (g o j : Nat) : (⟨g, o, none⟩ : Addr).add j = ⟨g, o + j, none⟩ := by unfold Addr.add; split <;> simp_all
theorem below_eqhx {w W V : World} (h : Below w.heap.size w W) (a : V.heap = W.heap) (b : V.os = W.os) (c : V.tape = W.tape) (d : V.output = W.output) : Below w.heap.size w V :=
  ⟨b.trans h.os, c.trans h.tape, d.trans h.output, by rw [a]; exact h.size, fun k hk => by rw [a]; exact h.block k hk⟩

/-- A list's numbers. -/
def nf (l : List Nat) (j : Nat) : Nat := l.getD j 0

theorem natL_turn {n f : Nat} (h : f ≤ n) (Y : Nat → Nat) : ([] ++ natL (n - f) fun j => Y (f + j)) ++ natL f Y = natL n fun j => Y ((j + f) % n) := by
  rw [List.nil_append]
  refine List.ext_getElem (by simp [natL]; omega) fun j h1 h2 => ?_
  have hj : j < n := by simpa [natL] using h2
  by_cases c : j < n - f
  · rw [List.getElem_append_left (by simpa [natL] using c)]
    simp only [natL, List.getElem_map, List.getElem_range]
    rw [Nat.mod_eq_of_lt (by omega), Nat.add_comm]
  · rw [List.getElem_append_right (by simp [natL]; omega)]
    simp only [natL, List.getElem_map, List.getElem_range, List.length_map, List.length_range]
    rw [show (j + f) % n = j - (n - f) by
      rw [show j + f = (j - (n - f)) + n by omega, Nat.add_mod_right, Nat.mod_eq_of_lt (by omega)]]

theorem num2_eq {I : Inst} (hk : I.kind = 2) {n : Nat} (hn : I.n = (n : Int)) {p q : Nat → Nat} (hp : Inj n p) (hq : Inj n q) {x y : List Int} (hx : Opt I x) (hy : Opt (setC I n (genC I (fun a b => elt I (p a) (q b)) n 0)) y) : costOf (setC I n (genC I (fun a b => elt I (p a) (q b)) n 0)) y = costOf I x := by
  refine (hy.best2 (I := setC I n (genC I (fun a b => elt I (p a) (q b)) n 0)) hk hn).eq (((hx.best2 hk hn).perm hp hq).congr fun a b ha hb => ?_)
  rw [elt_setC I _ ha hb, genC_all I _ a b ha]
theorem num2_fin {I : Inst} (hk : I.kind = 2) {n : Nat} (hn : I.n = (n : Int)) {p q : Nat → Nat} (hp : Inj n p) (hq : Inj n q) {x y : List Int} (hx : Opt I x) (hy : Opt (setC I n (genC I (fun a b => elt I (p a) (q b)) n 0)) y) {zf : Nat → Int} (hz : ∀ j, j < n → zf (p j) = ((q (y.getD j 0).toNat : Nat) : Int)) :
    ∃ z : Nat → Nat, (∀ j, j < n → zf j = (z j : Nat)) ∧ Feas I (natL n z) ∧ costOf I (natL n z) = costOf I x := by
  have iy := hy.1.inj (I := setC I n (genC I (fun a b => elt I (p a) (q b)) n 0)) hn (show I.kind ≠ 1 by omega)
  obtain ⟨g, hg, e1, e2⟩ := hp.back
  have hi : Inj n fun j => q (y.getD (g j) 0).toNat := hq.comp (iy.comp hg)
  refine ⟨fun j => q (y.getD (g j) 0).toNat, fun j hj => ?_, feas2 hk hn hi, ?_⟩
  · have := hz (g j) (hg.1 j hj)
    rwa [e2 j hj] at this
  · rw [← num2_eq hk hn hp hq hx hy, costA hk hn, costA (I := setC I n (genC I (fun a b => elt I (p a) (q b)) n 0)) hk hn,
      ac_congr (A := elt (setC I n (genC I (fun a b => elt I (p a) (q b)) n 0))) (B := fun a b => elt I (p a) (q b)) (z := fun j => (y.getD j 0).toNat) (fun a b ha hb => by rw [elt_setC I _ ha hb, genC_all I _ a b ha]) iy.1 (fun _ _ => rfl),
      ac_congr (A := elt I) (B := elt I) (z := fun j => q (y.getD (g j) 0).toNat) (fun _ _ _ _ => rfl) (fun j hj => by rw [natL_get _ hj, Int.toNat_natCast]; exact hi.1 j hj) (fun j hj => by rw [natL_get _ hj, Int.toNat_natCast])]
    exact (ac_perm (elt I) hp (y := fun j => (y.getD j 0).toNat) (z := fun j => q (y.getD (g j) 0).toNat) fun j hj => by rw [e1 j hj]).symm

theorem num3_eq {I : Inst} (hk : I.kind = 3) {n : Nat} (hn : I.n = (n : Int)) (hn0 : 0 < n) {p : Nat → Nat} (hp : Inj n p) {x y : List Int} (hx : Opt I x) (hy : Opt (setC I n (genC I (fun a b => elt I (p a) (p b)) n 0)) y) : costOf (setC I n (genC I (fun a b => elt I (p a) (p b)) n 0)) y = costOf I x := by
  refine (hy.best3 (I := setC I n (genC I (fun a b => elt I (p a) (p b)) n 0)) hk hn hn0).eq (((hx.best3 hk hn hn0).perm hn0 hp).congr hn0 fun a b ha hb => ?_)
  rw [elt_setC I _ ha hb, genC_all I _ a b ha]
theorem num3_fin {I : Inst} (hk : I.kind = 3) {n : Nat} (hn : I.n = (n : Int)) (hn0 : 0 < n) {p : Nat → Nat} (hp : Inj n p) {x y : List Int} (hx : Opt I x) (hy : Opt (setC I n (genC I (fun a b => elt I (p a) (p b)) n 0)) y) {f : Nat} (hf : p (y.getD f 0).toNat = 0) (hfn : f < n) :
    Feas I (natL n fun j => p (y.getD ((j + f) % n) 0).toNat) ∧ costOf I (natL n fun j => p (y.getD ((j + f) % n) 0).toNat) = costOf I x := by
  have iy := hy.1.inj (I := setC I n (genC I (fun a b => elt I (p a) (p b)) n 0)) hn (show I.kind ≠ 1 by omega)
  have hpy : Inj n fun j => p (y.getD j 0).toNat := hp.comp iy
  have hi : Inj n fun j => p (y.getD ((j + f) % n) 0).toNat := hpy.comp (Inj.shift n f hn0)
  refine ⟨feas3 hk hn hn0 hi (by show p (y.getD ((0 + f) % n) 0).toNat = 0; rw [Nat.zero_add, Nat.mod_eq_of_lt hfn, hf]), ?_⟩
  rw [← num3_eq hk hn hn0 hp hx hy, cost3 hk hn, cost3 (I := setC I n (genC I (fun a b => elt I (p a) (p b)) n 0)) hk hn,
    tc_congr (C := elt I) (D := elt I) (z := fun j => p (y.getD ((j + f) % n) 0).toNat) hn0 (fun j hj => by rw [natL_get _ hj, Int.toNat_natCast]) (fun _ _ _ _ => rfl) (fun j hj => by rw [natL_get _ hj, Int.toNat_natCast]; exact hi.1 j hj),
    tc_shift (elt I) hn0 (fun j => p (y.getD j 0).toNat) f,
    tc_congr (C := elt (setC I n (genC I (fun a b => elt I (p a) (p b)) n 0))) (D := fun a b => elt I (p a) (p b)) (z := fun j => (y.getD j 0).toNat) hn0 (fun _ _ => rfl) (fun a b ha hb => by rw [elt_setC I _ ha hb, genC_all I _ a b ha]) iy.1]
  rfl

set_option maxRecDepth 200000 in
set_option maxHeartbeats 2000000 in
theorem numbered_2 (I : Inst) (hI : WF I) (hL : isLarge I = true) (hk : I.kind = 2) (v : Value) (w : World) (hv : InstAt w v I) (hT : TabW w) (AP AQ : Option Addr) (LP LQ : List Nat) (cP cQ : Nat) (hUP : U8At w AP LP) (hUQ : U8At w AQ LQ) :
    Calls Tryd.prog 5 #[v, .slice AP LP.length cP, .slice AQ LQ.length cQ] w fun e w' => e = .returned (.bool true) ∧ Below w.heap.size w w' := by
  obtain ⟨n, hn, hn1, hn24, -, hlen, hcap, hws, hvs, hrow, hok, hdiag⟩ := hI.rows (by omega)
  have hlim := large_lim hL
  have HS := Lib.hid (fun W => stands_any W)
  have HLG := Lib.hid (fun W hv => large_true I hI hL v W hv)
  have HCP := Lib.hid (fun W hv => copy_mat I hI hk (by decide) hn v W hv)
  have HBI := Lib.hid (fun W hv hT => topbest_any I hI hlim v W hv hT)
  have HCO := Lib.hid (fun W A c x hv hA hx => cost_any I hI v A c x W hv hA hx)
  have hJ : ∀ lp lq : List Nat, Inj n (nf lp) → Inj n (nf lq) → WF (setC I n (genC I (fun a b => elt I (nf lp a) (nf lq b)) n 0)) := fun lp lq hp hq => hI.setC hn (by omega) (fun a b ha hb => by rw [genC_all I _ a b ha]; exact hok _ _ (hp.1 a ha) (hq.1 b hb)) (fun e a ha => by omega)
  have HBJ := Lib.hid (fun (lp lq : List Nat) (hp : Inj n (nf lp)) (hq : Inj n (nf lq)) W v hv hT => topbest_any (setC I n (genC I (fun a b => elt I (nf lp a) (nf lq b)) n 0)) (hJ lp lq hp hq) hlim v W hv hT)
  have hIJ := fun (lp lq : List Nat) W B g r cp c A8 A11 c8 c11 (hM : Mat W B g n r cp (genC I (fun a b => elt I (nf lp a) (nf lq b)) n 0)) (hc : n ≤ c) => instAt_mat (A8 := A8) (A11 := A11) (c8 := c8) (c11 := c11) hI (by omega) hn hn24 hM hc
  rw [hk, hn, hcap] at hIJ
  have HIJ := Lib.hid hIJ
  have HEQ := Lib.hid (fun (lp lq : List Nat) (hp : Inj n (nf lp)) (hq : Inj n (nf lq)) x y (hx : Opt I x) (hy : Opt (setC I n (genC I (fun a b => elt I (nf lp a) (nf lq b)) n 0)) y) => num2_eq hk hn hp hq hx hy)
  have HI := Lib.hid hI
  have HK := Lib.hid hk
  have HN := Lib.hid hn
  have HRL := Lib.hid hrow
  have HCL := Lib.hid hlen
  have HV := Lib.hid hv
  have HT := Lib.hid hT
  have HUP := Lib.hid hUP
  have HUQ := Lib.hid hUQ
  obtain ⟨A1, c1, A2, c2, A3, c3, rfl, hc3, h10⟩ := hv.mform hI hk (by decide) hn
  have H10 := Lib.hid h10
  have HSP := Lib.hid (fun W hU => shuffled_any n AP LP cP W hn24 hU)
  have HSQ := Lib.hid (fun W hU => shuffled_any n AQ LQ cQ W hn24 hU)
  generalize LP.length = lP at *
  generalize LQ.length = lQ at *
  clear hI hL hk hv hT hlim hJ hIJ hn hrow hlen hws hvs hok hdiag h10 hcap hUP hUQ
  go_enter Tryd.func5, Tryd.ntmps5
  go_wp2_with fail
  refine (HS.out _).mono ?_
  rintro e w1 ⟨rfl, hb1⟩
  have hB1 := keep_box hb1
  obtain ⟨hc1, hf1⟩ := bcell hb1
  have hbx1 := heap_keep (heap_new w (.cells #[.int .i64 2, .int .i64 (n : Int), .int .i64 0, .slice A1 0 c1, .slice A2 0 c2, .slice A3 n c3] 25 (0, 0)) _ rfl) hb1
  have HX1 := Lib.hid hbx1
  have HB1 := Lib.hid hB1
  clear hb1 hB1 hbx1
  go_wp2_with fail
  refine (HLG.out _ (HV.out.keep HB1.out)).mono ?_
  rintro e w2 ⟨rfl, hb2⟩
  have hbx2 := heap_keep HX1.out hb2
  have HX2 := Lib.hid hbx2
  have HB2 := Lib.hid (keep_trans HB1.out hb2)
  have y1 := blk_cell hbx2 1
  simp at y1
  have HSP2 := Lib.hid (show ∀ W : World, W.heap = w2.heap → W.os = w2.os → W.tape = w2.tape → W.output = w2.output → _ from fun W a b c d => HSP.out W (HUP.out.keep (below_eqhx HB2.out a b c d)))
  have HSQ2 := Lib.hid (show ∀ Wx w4 W : World, Below Wx.heap.size Wx w4 → Wx.heap = w2.heap → Wx.os = w2.os → Wx.tape = w2.tape → Wx.output = w2.output → W.heap = w4.heap → W.os = w4.os → W.tape = w4.tape → W.output = w4.output → _ from fun Wx w4 W hb a b c d a' b' c' d' => HSQ.out W (HUQ.out.keep (below_eqhx (keep_trans (below_eqhx HB2.out a b c d) hb) a' b' c' d')))
  have HKC := Lib.hid (show ∀ (W w4 : World) (p : Addr) (u : Value), Below W.heap.size W w4 → W.cell? p = some u → w4.cell? p = some u from fun W w4 p u hb h => cell_keep hb h)
  clear hc1 hf1 hb2 hbx2 HX1 HB1
  go_upto_region 3 with (fail)
  go_region_held3 (fun w' => w'.cell? ⟨w.heap.size, 1, none⟩ = some (.int .i64 (n : Int)))
    (first | (go_keep; done) | exact HKC.out _ _ _ _ hb5 (by assumption) | exact HKC.out _ _ _ _ hb4 (by assumption))
    (first | (go_at_call 16; refine (HSQ2.out _ _ _ hb4 (by rfl) (by rfl) (by rfl) (by rfl) (by rfl) (by rfl) (by rfl) (by rfl)).mono ?_; rintro e w5 ⟨⟨lq, vq, rfl, hpq, hoq⟩, hb5⟩) | (go_at_call 16; refine (HSP2.out _ (by rfl) (by rfl) (by rfl) (by rfl)).mono ?_; rintro e w4 ⟨⟨lp, vp, rfl, hpp, hop⟩, hb4⟩) | fail)
  have hipp := perm_inj hpp
  have hiqq := perm_inj hpq
  obtain ⟨Ap, cp', rfl, hcp', hIp⟩ := hop.at
  obtain ⟨Aq, cq', rfl, hcq', hIq⟩ := hoq.at
  have hpl : (lp.map fun k : Nat => (k : Int)).length = n := by rw [List.length_map]; exact hipp.1
  have hql : (lq.map fun k : Nat => (k : Int)).length = n := by rw [List.length_map]; exact hiqq.1
  rw [hpl] at hcp' ⊢
  rw [hql] at hcq' ⊢
  have hbx := heap_keep (heap_keep (show w2.drew.heap[w.heap.size]? = _ from HX2.out) hb4) hb5
  have HXk := Lib.hid hbx
  have HBk := Lib.hid (keep_trans (keep_trans (below_eqhx HB2.out (V := w2.drew) rfl rfl rfl rfl) hb4) hb5)
  have HIP := Lib.hid (hIp.keep (keep_trans (Below.refl _ _) hb5))
  have HIQ := Lib.hid hIq
  have HPL := Lib.hid hpl
  have HQL := Lib.hid hql
  have HPI := Lib.hid (show Inj n (nf lp) from hipp.2)
  have HQI := Lib.hid (show Inj n (nf lq) from hiqq.2)
  have HCPk := Lib.hid (HCP.out w5 (HV.out.keep HBk.out))
  have HIJk := Lib.hid (HIJ.out lp lq)
  have HBJk := Lib.hid (HBJ.out lp lq HPI.out HQI.out)
  have HEQk := Lib.hid (HEQ.out lp lq HPI.out HQI.out)
  have hxl := heap_lt hbx
  have y0 := blk_cell hbx 0
  have y1' := blk_cell hbx 1
  have y2 := blk_cell hbx 2
  have y3 := blk_cell hbx 3
  have y4 := blk_cell hbx 4
  have y5 := blk_cell hbx 5
  clear y1 hipp hiqq hop hoq hIp hIq hpl hql hbx hb4 hb5 hpp hpq HSP2 HSQ2 HKC HX2 HB2 HSP HSQ HCP HIJ HBJ HEQ
  go_wp2_with fail
  refine HCPk.out.mono ?_
  rintro e w3 ⟨A8, c8, A11, c11, g, c5, r, cp, B, rfl, hcc5, hBB, hM, hb3⟩
  have HX3 := Lib.hid (heap_keep HXk.out hb3)
  have HB3 := Lib.hid hb3
  have HM := Lib.hid hM
  have hs5 := hb3.size
  clear y0 y1' y2 y3 y4 y5 hM hb3
  go_wp2
  go_loopg [10] n (fun gg v10 wr => ∃ a : Nat, v10 = .int .i64 a ∧ a + gg = n ∧ Hid (Mat wr B g n r cp (genC I (fun a b => elt I (nf lp a) (nf lq b)) a 0)) ∧ Hid (Keep (RowSet n r) (w3.alloc (.cells #[.int .i64 2, .int .i64 (n : Int), .int .i64 0, .slice A8 0 c8, .slice A11 0 c11, .slice (some ⟨g, 0, none⟩) n c5] 25 (0, 0))) wr))
  case atStart => exact ⟨0, rfl, by omega, Lib.hid ((HM.out.below ((Below.refl _ _).alloc (Nat.le_refl _) _)).congr fun a b _ _ => (genC_zero I (fun a b => elt I (nf lp a) (nf lq b)) a b).symm), Lib.hid (Keep.refl _ _)⟩
  case round =>
    obtain ⟨a, rfl, ha, HMr, HKr⟩ := hrel
    have hx1 : ¬ RowSet n r w.heap.size := fun ⟨j, hj, e⟩ => by have := (HM.out.far j hj).2.1; omega
    have hx3 : ¬ RowSet n r w3.heap.size := fun ⟨j, hj, e⟩ => by have := (HM.out.arr j hj).lt; omega
    have hbi := HKr.out.heap (heap_old' HX3.out _) hx1
    have hbj := HKr.out.heap (heap_new w3 _ _ rfl) hx3
    have y0 := blk_cell hbi 0
    have y1 := blk_cell hbi 1
    have y2 := blk_cell hbi 2
    have y3 := blk_cell hbi 3
    have y4 := blk_cell hbi 4
    have y5 := blk_cell hbi 5
    have hBw : Below w5.heap.size w5 wr := HB3.out.trans ((HKr.out.below (B := w5.heap.size) (by simp; omega) (fun k hk ⟨j, hj, e⟩ => by have := (HM.out.far j hj).2.1; omega)) |> fun h => ((Below.refl _ _).alloc hs5 _).trans h)
    have HBw := Lib.hid hBw
    have HXi := Lib.hid hbi
    have HXj := Lib.hid hbj
    clear hbi hbj hBw hx1 hx3
    by_cases ca : a < n
    · have hai : (a : Int) < (n : Int) := by omega
      go_wp2
      obtain ⟨gL, rfl⟩ : ∃ g : Nat, g = gk := ⟨_, rfl⟩
      go_loopg [11] n (fun gg v5 wq => ∃ b : Nat, v5 = .int .i64 b ∧ b + gg = n ∧ Hid (Mat wq B g n r cp (genC I (fun a b => elt I (nf lp a) (nf lq b)) a b)) ∧ Hid (Keep (RowSet n r) wr wq))
      case atStart => exact ⟨0, rfl, by omega, HMr, Lib.hid (Keep.refl _ _)⟩
      case round =>
        clear y0 y1 y2 y3 y4 y5
        obtain ⟨b, rfl, hb, HMq, HKq⟩ := hrel
        have hx1 : ¬ RowSet n r w.heap.size := fun ⟨j, hj, e⟩ => by have := (HM.out.far j hj).2.1; omega
        have hx3 : ¬ RowSet n r w3.heap.size := fun ⟨j, hj, e⟩ => by have := (HM.out.arr j hj).lt; omega
        have hbi := HKq.out.heap HXi.out hx1
        have hbj := HKq.out.heap HXj.out hx3
        have y1 := blk_cell hbi 1
        have y5 := blk_cell hbi 5
        have z5 := blk_cell hbj 5
        clear hx1 hx3
        by_cases cb : b < n
        · have hbi' : (b : Int) < (n : Int) := by omega
          have hBq : Below w5.heap.size w5 wr := HBw.out.trans ((HKq.out.below (B := w5.heap.size) (by have := HBw.out.size; omega) (fun k hk ⟨j, hj, e⟩ => by have := (HM.out.far j hj).2.1; omega)))
          obtain ⟨adp, ep, hpc⟩ := (HIP.out.keep hBq).at_ (j := a) (by rw [HPL.out]; exact ca)
          obtain ⟨adq, eq, hqc⟩ := (HIQ.out.keep hBq).at_ (j := b) (by rw [HQL.out]; exact cb)
          subst ep eq
          
          rw [mapn_get] at hpc hqc
          have hpa := HPI.out.1 a ca
          have hqb := HQI.out.1 b cb
          obtain ⟨pa, hpae⟩ : ∃ x, nf lp a = x := ⟨_, rfl⟩
          obtain ⟨qb, hqbe⟩ : ∃ x, nf lq b = x := ⟨_, rfl⟩
          rw [show lp.getD a 0 = pa from hpae] at hpc
          rw [show lq.getD b 0 = qb from hqbe] at hqc
          rw [hpae] at hpa
          rw [hqbe] at hqb
          obtain ⟨ad, Br, cr, e1, hx, hxc, hBA⟩ := (H10.out.keep (keep_trans HBk.out hBq)).at_ (j := pa) (by rw [HCL.out]; exact hpa)
          subst e1
          obtain ⟨ad2, e2, hxe⟩ := hBA.at_ (j := qb) (by rw [HRL.out pa hpa]; exact hqb)
          subst e2
          rw [HRL.out pa hpa] at hx hxc
          have hel : (I.cost.getD pa []).getD qb 0 = elt I pa qb := rfl
          rw [hel] at hxe
          obtain ⟨E, hE⟩ : ∃ E, elt I pa qb = E := ⟨_, rfl⟩
          rw [hE] at hxe
          have HE := Lib.hid (show (fun a b => elt I (nf lp a) (nf lq b)) a b = E from by show elt I (nf lp a) (nf lq b) = E; rw [hpae, hqbe]; exact hE)
          have r1 := HMq.out.row.cell ca
          have r2 := (HMq.out.arr a ca).cell cb
          have r3 := (HMq.out.arr a ca).free b
          have hcpa := (HM.out.far a ca).1
          have hpai : (pa : Int) < (n : Int) := by omega
          have hqbi : (qb : Int) < (n : Int) := by omega
          clear hel hE hBA hbi hbj hBq hpae hqbe
          go_wp2
          go_big_region
          all_goals go_wp2
          all_goals go_roundg (gk - 1)
          case measure => omega
          case rel =>
            exact ⟨b + 1, by go_num, by omega, Lib.hid (((HMq.out.set ca b E).congr fun x y _ _ => by rw [← HE.out]; exact genC_step I (fun a b => elt I (nf lp a) (nf lq b)) a b x y).drew), Lib.hid ((HKq.out.setCell (p := ⟨r a, b, none⟩) ⟨a, ca, rfl⟩ _).drew)⟩
        · have eb : b = n := by omega
          subst eb
          go_wp2
          go_roundg (gL - 1)
          case measure => omega
          case rel => exact ⟨a + 1, by go_num, by omega, Lib.hid (HMq.out.congr fun x y _ hy => genC_row I (fun a b => elt I (nf lp a) (nf lq b)) a x y hy), Lib.hid (HKr.out.trans HKq.out)⟩
    · have ea : n = a := by omega
      subst ea
      have HBIr := Lib.hid (HBI.out wr (HV.out.keep (keep_trans HBk.out HBw.out)) (HT.out.keep (keep_trans HBk.out HBw.out)))
      clear HKr
      go_wp2_with fail
      refine HBIr.out.mono ?_
      rintro e w6 ⟨x, Ax, cx, rfl, hox, hxc, hix, hb6⟩
      obtain ⟨C, hC⟩ : ∃ C, costOf I x = C := ⟨_, rfl⟩
      rw [hC]
      have HC := Lib.hid hC
      have HOX := Lib.hid hox
      have HXj6 := Lib.hid (heap_keep HXj.out hb6)
      have HXi6 := Lib.hid (heap_keep HXi.out hb6)
      have HB6 := Lib.hid (keep_trans HBw.out hb6)
      have HM6 := Lib.hid (HMr.out.below hb6)
      have HBJr := Lib.hid (HBJk.out w6 _ (HIJk.out w6 B g r cp c5 A8 A11 c8 c11 HM6.out hcc5) (HT.out.keep (keep_trans HBk.out HB6.out)))
      have hxj := HXj6.out
      have z0 := blk_cell hxj 0
      have z1 := blk_cell hxj 1
      have z2 := blk_cell hxj 2
      have z3 := blk_cell hxj 3
      have z4 := blk_cell hxj 4
      have z5 := blk_cell hxj 5
      clear y0 y1 y2 y3 y4 y5 HBIr hC hox hxc hix hb6 HBw HXi HXj HMr hxj HX3 HB3 HM HCPk HS HLG HBI
      go_wp2_with fail
      refine HBJr.out.mono ?_
      rintro e w7 ⟨y, Ay, cy, rfl, hoy, hyc, hiy, hb7⟩
      rw [HEQk.out x y HOX.out hoy, HC.out]
      have hyl : y.length = n := hoy.1.len (I := (setC I n (genC I (fun a b => elt I (nf lp a) (nf lq b)) n 0))) HN.out
      rw [hyl] at hyc ⊢
      have HOY := Lib.hid hoy
      have HYL := Lib.hid hyl
      have HIY := Lib.hid hiy
      have HXi7 := Lib.hid (heap_keep HXi6.out hb7)
      have HB7 := Lib.hid (keep_trans HB6.out hb7)
      have hxi := HXi7.out
      have y0 := blk_cell hxi 0
      have y1 := blk_cell hxi 1
      have y2 := blk_cell hxi 2
      have y3 := blk_cell hxi 3
      have y4 := blk_cell hxi 4
      have y5 := blk_cell hxi 5
      have hCC : (C != C) = false := by simp
      have hNN : ((n : Int) != (n : Int)) = false := by simp
      have hmk := mk_ints1 n (by omega)
      obtain ⟨ad, eA, hcs⟩ := hiy (by rw [hyl]; omega)
      subst eA
      have HCS := Lib.hid hcs
      clear z0 z1 z2 z3 z4 z5 HBJr hoy hyl hiy hb7 hxi HXj6 HXi6 HM6 HB6 hcs
      go_wp2
      go_loopg [21] n (fun gg v21 wz => ∃ (a : Nat) (zf : Nat → Int), v21 = .int .i64 a ∧ a + gg = n ∧ Hid (Arr wz w7.heap.size n zf) ∧ Hid (Below w7.heap.size w7 wz) ∧ Hid (∀ j, j < a → zf (nf lp j) = ((nf lq (y.getD j 0).toNat : Nat) : Int)))
      case atStart => exact ⟨0, fun _ => 0, rfl, by omega, Lib.hid (Row.made w7 3 (.int .i64 0) n), Lib.hid ((Below.refl _ _).alloc (Nat.le_refl _) _), Lib.hid (fun j hj => by omega)⟩
      case round =>
        clear y0 y1 y2 y3 y4 y5
        obtain ⟨a, zf, rfl, ha, HZ, HBZ, HZF⟩ := hrel
        have hxi := heap_keep HXi7.out HBZ.out
        have y0 := blk_cell hxi 0
        have y1 := blk_cell hxi 1
        have y2 := blk_cell hxi 2
        have y3 := blk_cell hxi 3
        have y4 := blk_cell hxi 4
        have y5 := blk_cell hxi 5
        clear hxi
        by_cases ca : a < n
        · have hcy := cell_keep HBZ.out (HCS.out a (by rw [HYL.out]; exact ca))
          have hya := (HOY.out.1.2 (by have := HK.out; show I.kind ≠ 1; omega)).1.2.1 a (by show a < I.n.toNat; rw [HN.out]; simpa using ca)
          obtain ⟨qy, hqy⟩ : ∃ q : Nat, y.getD a 0 = (q : Int) := Int.eq_ofNat_of_zero_le hya.1
          have hqyn : qy < n := by have h8 : y.getD a 0 < (I.n.toNat : Int) := hya.2; rw [HN.out, Int.toNat_natCast, hqy] at h8; omega
          have hqyi : (qy : Int) < (n : Int) := by omega
          rw [hqy] at hcy
          have hqa : (y.getD a 0).toNat = qy := by rw [hqy]; exact Int.toNat_natCast qy
          have HQA := Lib.hid hqa
          clear hya hqy hqa
          have hB5 := keep_trans HB7.out HBZ.out
          obtain ⟨adp, ep, hpc⟩ := (HIP.out.keep hB5).at_ (j := a) (by rw [HPL.out]; exact ca)
          obtain ⟨adq, eq, hqc⟩ := (HIQ.out.keep hB5).at_ (j := qy) (by rw [HQL.out]; exact hqyn)
          subst ep eq
          rw [mapn_get] at hpc hqc
          have hpa := HPI.out.1 a ca
          obtain ⟨pa, hpae⟩ : ∃ x, nf lp a = x := ⟨_, rfl⟩
          obtain ⟨qq, hqqe⟩ : ∃ x, nf lq qy = x := ⟨_, rfl⟩
          rw [show lp.getD a 0 = pa from hpae] at hpc
          rw [show lq.getD qy 0 = qq from hqqe] at hqc
          rw [hpae] at hpa
          have HPA := Lib.hid hpae
          have HQQ := Lib.hid hqqe
          have zc := HZ.out.cell hpa
          have zfr := Row.free HZ.out pa
          have hpai : (pa : Int) < (n : Int) := by omega
          clear hpae hqqe hB5
          go_wp2
          go_big_region
          all_goals go_wp2
          all_goals go_roundg (gk - 1)
          case measure => omega
          case rel =>
            refine ⟨a + 1, upd zf pa (qq : Int), by go_num, by omega, Lib.hid (HZ.out.set pa (qq : Int)).drew, Lib.hid (HBZ.out.setCell (p := ⟨w7.heap.size, pa, none⟩) (Nat.le_refl _) _).drew, Lib.hid (fun j hj => ?_)⟩
            by_cases e : j = a
            · subst e; rw [HPA.out, HQA.out, HQQ.out, upd_same]
            · rw [upd_other _ (fun e2 => e (HPI.out.2 j a (by omega) ca (by rw [HPA.out]; exact e2)))]
              exact HZF.out j (by omega)
        · have ea : n = a := by omega
          subst ea
          obtain ⟨z, hzz, hfz, hcz⟩ := num2_fin HK.out HN.out HPI.out HQI.out HOX.out HOY.out HZF.out
          have hco := HCO.out wr (some ⟨w7.heap.size, 0, none⟩) n (natL n z) (HV.out.keep (keep_trans HBk.out (keep_trans HB7.out HBZ.out))) (HZ.out.natL hzz) hfz
          rw [natL_len, hcz, HC.out] at hco
          clear hzz hfz hcz
          have HCO2 := Lib.hid hco
          have hcc : (C == C) = true := by simp
          clear hco HCO
          go_wp2_with fail
          refine HCO2.out.mono ?_
          rintro e w8 ⟨rfl, hb8⟩
          have HB8 := Lib.hid hb8
          clear hb8
          go_wp2
          go_ret
          exact ⟨rfl, keep_trans (keep_trans HBk.out (keep_trans HB7.out HBZ.out)) HB8.out⟩

set_option maxRecDepth 200000 in
set_option maxHeartbeats 2000000 in
theorem numbered_3 (I : Inst) (hI : WF I) (hL : isLarge I = true) (hk : I.kind = 3) (v : Value) (w : World) (hv : InstAt w v I) (hT : TabW w) (AP AQ : Option Addr) (LP LQ : List Nat) (cP cQ : Nat) (hUP : U8At w AP LP) (hUQ : U8At w AQ LQ) :
    Calls Tryd.prog 5 #[v, .slice AP LP.length cP, .slice AQ LQ.length cQ] w fun e w' => e = .returned (.bool true) ∧ Below w.heap.size w w' := by
  obtain ⟨n, hn, hn1, hn24, -, hlen, hcap, hws, hvs, hrow, hok, hdiag⟩ := hI.rows (by omega)
  have hlim := large_lim hL
  have HS := Lib.hid (fun W => stands_any W)
  have HLG := Lib.hid (fun W hv => large_true I hI hL v W hv)
  have HCP := Lib.hid (fun W hv => copy_mat I hI hk (by decide) hn v W hv)
  have HBI := Lib.hid (fun W hv hT => topbest_any I hI hlim v W hv hT)
  have HCO := Lib.hid (fun W A c x hv hA hx => cost_any I hI v A c x W hv hA hx)
  have hJ : ∀ lp lq : List Nat, Inj n (nf lp) → Inj n (nf lq) → WF (setC I n (genC I (fun a b => elt I (nf lp a) (nf lp b)) n 0)) := fun lp lq hp hq => hI.setC hn (by omega) (fun a b ha hb => by rw [genC_all I _ a b ha]; exact hok _ _ (hp.1 a ha) (hp.1 b hb)) (fun e a ha => by rw [genC_all I _ a a ha]; exact hdiag e _ (hp.1 a ha))
  have HBJ := Lib.hid (fun (lp lq : List Nat) (hp : Inj n (nf lp)) (hq : Inj n (nf lq)) W v hv hT => topbest_any (setC I n (genC I (fun a b => elt I (nf lp a) (nf lp b)) n 0)) (hJ lp lq hp hq) hlim v W hv hT)
  have hIJ := fun (lp lq : List Nat) W B g r cp c A8 A11 c8 c11 (hM : Mat W B g n r cp (genC I (fun a b => elt I (nf lp a) (nf lp b)) n 0)) (hc : n ≤ c) => instAt_mat (A8 := A8) (A11 := A11) (c8 := c8) (c11 := c11) hI (by omega) hn hn24 hM hc
  rw [hk, hn, hcap] at hIJ
  have HIJ := Lib.hid hIJ
  have HEQ := Lib.hid (fun (lp lq : List Nat) (hp : Inj n (nf lp)) (hq : Inj n (nf lq)) x y (hx : Opt I x) (hy : Opt (setC I n (genC I (fun a b => elt I (nf lp a) (nf lp b)) n 0)) y) => num3_eq hk hn hn1 hp hx hy)
  have HI := Lib.hid hI
  have HK := Lib.hid hk
  have HN := Lib.hid hn
  have HRL := Lib.hid hrow
  have HCL := Lib.hid hlen
  have HV := Lib.hid hv
  have HT := Lib.hid hT
  have HUP := Lib.hid hUP
  have HUQ := Lib.hid hUQ
  obtain ⟨A1, c1, A2, c2, A3, c3, rfl, hc3, h10⟩ := hv.mform hI hk (by decide) hn
  have H10 := Lib.hid h10
  have HSP := Lib.hid (fun W hU => shuffled_any n AP LP cP W hn24 hU)
  have HSQ := Lib.hid (fun W hU => shuffled_any n AQ LQ cQ W hn24 hU)
  generalize LP.length = lP at *
  generalize LQ.length = lQ at *
  clear hI hL hk hv hT hlim hJ hIJ hn hrow hlen hws hvs hok hdiag h10 hcap hUP hUQ
  go_enter Tryd.func5, Tryd.ntmps5
  go_wp2_with fail
  refine (HS.out _).mono ?_
  rintro e w1 ⟨rfl, hb1⟩
  have hB1 := keep_box hb1
  obtain ⟨hc1, hf1⟩ := bcell hb1
  have hbx1 := heap_keep (heap_new w (.cells #[.int .i64 3, .int .i64 (n : Int), .int .i64 0, .slice A1 0 c1, .slice A2 0 c2, .slice A3 n c3] 25 (0, 0)) _ rfl) hb1
  have HX1 := Lib.hid hbx1
  have HB1 := Lib.hid hB1
  clear hb1 hB1 hbx1
  go_wp2_with fail
  refine (HLG.out _ (HV.out.keep HB1.out)).mono ?_
  rintro e w2 ⟨rfl, hb2⟩
  have hbx2 := heap_keep HX1.out hb2
  have HX2 := Lib.hid hbx2
  have HB2 := Lib.hid (keep_trans HB1.out hb2)
  have y1 := blk_cell hbx2 1
  simp at y1
  have HSP2 := Lib.hid (show ∀ W : World, W.heap = w2.heap → W.os = w2.os → W.tape = w2.tape → W.output = w2.output → _ from fun W a b c d => HSP.out W (HUP.out.keep (below_eqhx HB2.out a b c d)))
  have HSQ2 := Lib.hid (show ∀ Wx w4 W : World, Below Wx.heap.size Wx w4 → Wx.heap = w2.heap → Wx.os = w2.os → Wx.tape = w2.tape → Wx.output = w2.output → W.heap = w4.heap → W.os = w4.os → W.tape = w4.tape → W.output = w4.output → _ from fun Wx w4 W hb a b c d a' b' c' d' => HSQ.out W (HUQ.out.keep (below_eqhx (keep_trans (below_eqhx HB2.out a b c d) hb) a' b' c' d')))
  have HKC := Lib.hid (show ∀ (W w4 : World) (p : Addr) (u : Value), Below W.heap.size W w4 → W.cell? p = some u → w4.cell? p = some u from fun W w4 p u hb h => cell_keep hb h)
  clear hc1 hf1 hb2 hbx2 HX1 HB1
  go_upto_region 3 with (fail)
  go_region_held3 (fun w' => w'.cell? ⟨w.heap.size, 1, none⟩ = some (.int .i64 (n : Int)))
    (first | (go_keep; done) | exact HKC.out _ _ _ _ hb5 (by assumption) | exact HKC.out _ _ _ _ hb4 (by assumption))
    (first | (go_at_call 16; refine (HSQ2.out _ _ _ hb4 (by rfl) (by rfl) (by rfl) (by rfl) (by rfl) (by rfl) (by rfl) (by rfl)).mono ?_; rintro e w5 ⟨⟨lq, vq, rfl, hpq, hoq⟩, hb5⟩) | (go_at_call 16; refine (HSP2.out _ (by rfl) (by rfl) (by rfl) (by rfl)).mono ?_; rintro e w4 ⟨⟨lp, vp, rfl, hpp, hop⟩, hb4⟩) | fail)
  have hipp := perm_inj hpp
  have hiqq := perm_inj hpq
  obtain ⟨Ap, cp', rfl, hcp', hIp⟩ := hop.at
  obtain ⟨Aq, cq', rfl, hcq', hIq⟩ := hoq.at
  have hpl : (lp.map fun k : Nat => (k : Int)).length = n := by rw [List.length_map]; exact hipp.1
  have hql : (lq.map fun k : Nat => (k : Int)).length = n := by rw [List.length_map]; exact hiqq.1
  rw [hpl] at hcp' ⊢
  rw [hql] at hcq' ⊢
  have hbx := heap_keep (heap_keep (show w2.drew.heap[w.heap.size]? = _ from HX2.out) hb4) hb5
  have HXk := Lib.hid hbx
  have HBk := Lib.hid (keep_trans (keep_trans (below_eqhx HB2.out (V := w2.drew) rfl rfl rfl rfl) hb4) hb5)
  have HIP := Lib.hid (hIp.keep (keep_trans (Below.refl _ _) hb5))
  have HIQ := Lib.hid hIq
  have HPL := Lib.hid hpl
  have HQL := Lib.hid hql
  have HPI := Lib.hid (show Inj n (nf lp) from hipp.2)
  have HQI := Lib.hid (show Inj n (nf lq) from hiqq.2)
  have HCPk := Lib.hid (HCP.out w5 (HV.out.keep HBk.out))
  have HIJk := Lib.hid (HIJ.out lp lq)
  have HBJk := Lib.hid (HBJ.out lp lq HPI.out HQI.out)
  have HEQk := Lib.hid (HEQ.out lp lq HPI.out HQI.out)
  have hxl := heap_lt hbx
  have y0 := blk_cell hbx 0
  have y1' := blk_cell hbx 1
  have y2 := blk_cell hbx 2
  have y3 := blk_cell hbx 3
  have y4 := blk_cell hbx 4
  have y5 := blk_cell hbx 5
  clear y1 hipp hiqq hop hoq hIp hIq hpl hql hbx hb4 hb5 hpp hpq HSP2 HSQ2 HKC HX2 HB2 HSP HSQ HCP HIJ HBJ HEQ
  go_wp2_with fail
  refine HCPk.out.mono ?_
  rintro e w3 ⟨A8, c8, A11, c11, g, c5, r, cp, B, rfl, hcc5, hBB, hM, hb3⟩
  have HX3 := Lib.hid (heap_keep HXk.out hb3)
  have HB3 := Lib.hid hb3
  have HM := Lib.hid hM
  have hs5 := hb3.size
  clear y0 y1' y2 y3 y4 y5 hM hb3
  go_wp2
  go_loopg [10] n (fun gg v10 wr => ∃ a : Nat, v10 = .int .i64 a ∧ a + gg = n ∧ Hid (Mat wr B g n r cp (genC I (fun a b => elt I (nf lp a) (nf lp b)) a 0)) ∧ Hid (Keep (RowSet n r) (w3.alloc (.cells #[.int .i64 3, .int .i64 (n : Int), .int .i64 0, .slice A8 0 c8, .slice A11 0 c11, .slice (some ⟨g, 0, none⟩) n c5] 25 (0, 0))) wr))
  case atStart => exact ⟨0, rfl, by omega, Lib.hid ((HM.out.below ((Below.refl _ _).alloc (Nat.le_refl _) _)).congr fun a b _ _ => (genC_zero I (fun a b => elt I (nf lp a) (nf lp b)) a b).symm), Lib.hid (Keep.refl _ _)⟩
  case round =>
    obtain ⟨a, rfl, ha, HMr, HKr⟩ := hrel
    have hx1 : ¬ RowSet n r w.heap.size := fun ⟨j, hj, e⟩ => by have := (HM.out.far j hj).2.1; omega
    have hx3 : ¬ RowSet n r w3.heap.size := fun ⟨j, hj, e⟩ => by have := (HM.out.arr j hj).lt; omega
    have hbi := HKr.out.heap (heap_old' HX3.out _) hx1
    have hbj := HKr.out.heap (heap_new w3 _ _ rfl) hx3
    have y0 := blk_cell hbi 0
    have y1 := blk_cell hbi 1
    have y2 := blk_cell hbi 2
    have y3 := blk_cell hbi 3
    have y4 := blk_cell hbi 4
    have y5 := blk_cell hbi 5
    have hBw : Below w5.heap.size w5 wr := HB3.out.trans ((HKr.out.below (B := w5.heap.size) (by simp; omega) (fun k hk ⟨j, hj, e⟩ => by have := (HM.out.far j hj).2.1; omega)) |> fun h => ((Below.refl _ _).alloc hs5 _).trans h)
    have HBw := Lib.hid hBw
    have HXi := Lib.hid hbi
    have HXj := Lib.hid hbj
    clear hbi hbj hBw hx1 hx3
    by_cases ca : a < n
    · have hai : (a : Int) < (n : Int) := by omega
      go_wp2
      obtain ⟨gL, rfl⟩ : ∃ g : Nat, g = gk := ⟨_, rfl⟩
      go_loopg [12] n (fun gg v5 wq => ∃ b : Nat, v5 = .int .i64 b ∧ b + gg = n ∧ Hid (Mat wq B g n r cp (genC I (fun a b => elt I (nf lp a) (nf lp b)) a b)) ∧ Hid (Keep (RowSet n r) wr wq))
      case atStart => exact ⟨0, rfl, by omega, HMr, Lib.hid (Keep.refl _ _)⟩
      case round =>
        clear y0 y1 y2 y3 y4 y5
        obtain ⟨b, rfl, hb, HMq, HKq⟩ := hrel
        have hx1 : ¬ RowSet n r w.heap.size := fun ⟨j, hj, e⟩ => by have := (HM.out.far j hj).2.1; omega
        have hx3 : ¬ RowSet n r w3.heap.size := fun ⟨j, hj, e⟩ => by have := (HM.out.arr j hj).lt; omega
        have hbi := HKq.out.heap HXi.out hx1
        have hbj := HKq.out.heap HXj.out hx3
        have y1 := blk_cell hbi 1
        have y5 := blk_cell hbi 5
        have z5 := blk_cell hbj 5
        clear hx1 hx3
        by_cases cb : b < n
        · have hbi' : (b : Int) < (n : Int) := by omega
          have hBq : Below w5.heap.size w5 wr := HBw.out.trans ((HKq.out.below (B := w5.heap.size) (by have := HBw.out.size; omega) (fun k hk ⟨j, hj, e⟩ => by have := (HM.out.far j hj).2.1; omega)))
          obtain ⟨adp, ep, hpc⟩ := (HIP.out.keep hBq).at_ (j := a) (by rw [HPL.out]; exact ca)
          obtain ⟨adq, eq, hqc⟩ := (HIP.out.keep hBq).at_ (j := b) (by rw [HPL.out]; exact cb)
          subst ep
          cases eq
          rw [mapn_get] at hpc hqc
          have hpa := HPI.out.1 a ca
          have hqb := HPI.out.1 b cb
          obtain ⟨pa, hpae⟩ : ∃ x, nf lp a = x := ⟨_, rfl⟩
          obtain ⟨qb, hqbe⟩ : ∃ x, nf lp b = x := ⟨_, rfl⟩
          rw [show lp.getD a 0 = pa from hpae] at hpc
          rw [show lp.getD b 0 = qb from hqbe] at hqc
          rw [hpae] at hpa
          rw [hqbe] at hqb
          obtain ⟨ad, Br, cr, e1, hx, hxc, hBA⟩ := (H10.out.keep (keep_trans HBk.out hBq)).at_ (j := pa) (by rw [HCL.out]; exact hpa)
          subst e1
          obtain ⟨ad2, e2, hxe⟩ := hBA.at_ (j := qb) (by rw [HRL.out pa hpa]; exact hqb)
          subst e2
          rw [HRL.out pa hpa] at hx hxc
          have hel : (I.cost.getD pa []).getD qb 0 = elt I pa qb := rfl
          rw [hel] at hxe
          obtain ⟨E, hE⟩ : ∃ E, elt I pa qb = E := ⟨_, rfl⟩
          rw [hE] at hxe
          have HE := Lib.hid (show (fun a b => elt I (nf lp a) (nf lp b)) a b = E from by show elt I (nf lp a) (nf lp b) = E; rw [hpae, hqbe]; exact hE)
          have r1 := HMq.out.row.cell ca
          have r2 := (HMq.out.arr a ca).cell cb
          have r3 := (HMq.out.arr a ca).free b
          have hcpa := (HM.out.far a ca).1
          have hpai : (pa : Int) < (n : Int) := by omega
          have hqbi : (qb : Int) < (n : Int) := by omega
          clear hel hE hBA hbi hbj hBq hpae hqbe
          go_wp2
          go_big_region
          all_goals go_wp2
          all_goals go_roundg (gk - 1)
          case measure => omega
          case rel =>
            exact ⟨b + 1, by go_num, by omega, Lib.hid (((HMq.out.set ca b E).congr fun x y _ _ => by rw [← HE.out]; exact genC_step I (fun a b => elt I (nf lp a) (nf lp b)) a b x y).drew), Lib.hid ((HKq.out.setCell (p := ⟨r a, b, none⟩) ⟨a, ca, rfl⟩ _).drew)⟩
        · have eb : b = n := by omega
          subst eb
          go_wp2
          go_roundg (gL - 1)
          case measure => omega
          case rel => exact ⟨a + 1, by go_num, by omega, Lib.hid (HMq.out.congr fun x y _ hy => genC_row I (fun a b => elt I (nf lp a) (nf lp b)) a x y hy), Lib.hid (HKr.out.trans HKq.out)⟩
    · have ea : n = a := by omega
      subst ea
      have HBIr := Lib.hid (HBI.out wr (HV.out.keep (keep_trans HBk.out HBw.out)) (HT.out.keep (keep_trans HBk.out HBw.out)))
      clear HKr
      go_wp2_with fail
      refine HBIr.out.mono ?_
      rintro e w6 ⟨x, Ax, cx, rfl, hox, hxc, hix, hb6⟩
      obtain ⟨C, hC⟩ : ∃ C, costOf I x = C := ⟨_, rfl⟩
      rw [hC]
      have HC := Lib.hid hC
      have HOX := Lib.hid hox
      have HXj6 := Lib.hid (heap_keep HXj.out hb6)
      have HXi6 := Lib.hid (heap_keep HXi.out hb6)
      have HB6 := Lib.hid (keep_trans HBw.out hb6)
      have HM6 := Lib.hid (HMr.out.below hb6)
      have HBJr := Lib.hid (HBJk.out w6 _ (HIJk.out w6 B g r cp c5 A8 A11 c8 c11 HM6.out hcc5) (HT.out.keep (keep_trans HBk.out HB6.out)))
      have hxj := HXj6.out
      have z0 := blk_cell hxj 0
      have z1 := blk_cell hxj 1
      have z2 := blk_cell hxj 2
      have z3 := blk_cell hxj 3
      have z4 := blk_cell hxj 4
      have z5 := blk_cell hxj 5
      clear y0 y1 y2 y3 y4 y5 HBIr hC hox hxc hix hb6 HBw HXi HXj HMr hxj HX3 HB3 HM HCPk HS HLG HBI
      go_wp2_with fail
      refine HBJr.out.mono ?_
      rintro e w7 ⟨y, Ay, cy, rfl, hoy, hyc, hiy, hb7⟩
      rw [HEQk.out x y HOX.out hoy, HC.out]
      have hyl : y.length = n := hoy.1.len (I := (setC I n (genC I (fun a b => elt I (nf lp a) (nf lp b)) n 0))) HN.out
      rw [hyl] at hyc ⊢
      have HOY := Lib.hid hoy
      have HYL := Lib.hid hyl
      have HIY := Lib.hid hiy
      have HXi7 := Lib.hid (heap_keep HXi6.out hb7)
      have HB7 := Lib.hid (keep_trans HB6.out hb7)
      have hxi := HXi7.out
      have y0 := blk_cell hxi 0
      have y1 := blk_cell hxi 1
      have y2 := blk_cell hxi 2
      have y3 := blk_cell hxi 3
      have y4 := blk_cell hxi 4
      have y5 := blk_cell hxi 5
      have hCC : (C != C) = false := by simp
      have hNN : ((n : Int) != (n : Int)) = false := by simp
      have hmk := mk_ints1 n (by omega)
      obtain ⟨ad, eA, hcs⟩ := hiy (by rw [hyl]; omega)
      subst eA
      have HCS := Lib.hid hcs
      clear z0 z1 z2 z3 z4 z5 HBJr hoy hyl hiy hb7 hxi HXj6 HXi6 HM6 HB6 hcs
      go_wp2
      go_loopg [20, 21] n (fun gg v20 v21 wz => ∃ (a f : Nat) (zf : Nat → Int), v20 = .int .i64 f ∧ v21 = .int .i64 a ∧ a + gg = n ∧ Hid (Arr wz w7.heap.size n zf) ∧ Hid (Below w7.heap.size w7 wz) ∧ Hid (∀ j, j < a → zf j = ((nf lp (y.getD j 0).toNat : Nat) : Int)) ∧ Hid (∀ j, j < a → nf lp (y.getD j 0).toNat = 0 → f = j))
      case atStart => exact ⟨0, 0, fun _ => 0, rfl, rfl, by omega, Lib.hid (Row.made w7 3 (.int .i64 0) n), Lib.hid ((Below.refl _ _).alloc (Nat.le_refl _) _), Lib.hid (fun j hj => by omega), Lib.hid (fun j hj => by omega)⟩
      case round =>
        clear y0 y1 y2 y3 y4 y5
        obtain ⟨a, f, zf, rfl, rfl, ha, HZ, HBZ, HZF, HFF⟩ := hrel
        have hxi := heap_keep HXi7.out HBZ.out
        have y0 := blk_cell hxi 0
        have y1 := blk_cell hxi 1
        have y2 := blk_cell hxi 2
        have y3 := blk_cell hxi 3
        have y4 := blk_cell hxi 4
        have y5 := blk_cell hxi 5
        clear hxi
        by_cases ca : a < n
        · have hcy := cell_keep HBZ.out (HCS.out a (by rw [HYL.out]; exact ca))
          have hya := (HOY.out.1.2 (by have := HK.out; show I.kind ≠ 1; omega)).1.2.1 a (by show a < I.n.toNat; rw [HN.out]; simpa using ca)
          obtain ⟨qy, hqy⟩ : ∃ q : Nat, y.getD a 0 = (q : Int) := Int.eq_ofNat_of_zero_le hya.1
          have hqyn : qy < n := by have h8 : y.getD a 0 < (I.n.toNat : Int) := hya.2; rw [HN.out, Int.toNat_natCast, hqy] at h8; omega
          have hqyi : (qy : Int) < (n : Int) := by omega
          rw [hqy] at hcy
          have hqa : (y.getD a 0).toNat = qy := by rw [hqy]; exact Int.toNat_natCast qy
          have HQA := Lib.hid hqa
          clear hya hqy hqa
          have hB5 := keep_trans HB7.out HBZ.out
          obtain ⟨adp, ep, hpc⟩ := (HIP.out.keep hB5).at_ (j := qy) (by rw [HPL.out]; exact hqyn)
          subst ep
          rw [mapn_get] at hpc
          obtain ⟨pq, hpqe⟩ : ∃ x, nf lp qy = x := ⟨_, rfl⟩
          rw [show lp.getD qy 0 = pq from hpqe] at hpc
          have HPQ := Lib.hid hpqe
          have HIN := Lib.hid (HOY.out.1.inj (I := (setC I n (genC I (fun a b => elt I (nf lp a) (nf lp b)) n 0))) HN.out (by have := HK.out; show I.kind ≠ 1; omega))
          have zc := HZ.out.cell ca
          have zfr := Row.free HZ.out a
          have hai : (a : Int) < (n : Int) := by omega
          clear hpqe hB5
          have hstep : ∀ j, j < a + 1 → upd zf a (pq : Int) j = ((nf lp (y.getD j 0).toNat : Nat) : Int) := fun j hj => by
            by_cases e : j = a
            · subst e; rw [upd_same, HQA.out, HPQ.out]
            · rw [upd_other _ e]; exact HZF.out j (by omega)
          have HST := Lib.hid hstep
          clear hstep
          by_cases hp0 : pq = 0
          · have hz0 : ((pq : Int) == 0) = true := by simp [hp0]
            have HP0 := Lib.hid hp0
            clear hp0
            go_wp2
            go_roundg (gk - 1)
            case measure => omega
            case rel =>
              refine ⟨a + 1, a, upd zf a (pq : Int), rfl, by go_num, by omega, Lib.hid (HZ.out.set a (pq : Int)), Lib.hid (HBZ.out.setCell (p := ⟨w7.heap.size, a, none⟩) (Nat.le_refl _) _), HST, Lib.hid (fun j hj h0 => ?_)⟩
              refine (HIN.out.2 j a (by omega) ca ?_).symm
              have h1 : nf lp (y.getD a 0).toNat = 0 := by rw [HQA.out, HPQ.out, HP0.out]
              exact HPI.out.2 _ _ (HIN.out.1 j (by omega)) (HIN.out.1 a ca) (h0.trans h1.symm)
          · have hz0 : ((pq : Int) == 0) = false := by simp; exact hp0
            have HP0 := Lib.hid hp0
            clear hp0
            go_wp2
            go_roundg (gk - 1)
            case measure => omega
            case rel =>
              refine ⟨a + 1, f, upd zf a (pq : Int), rfl, by go_num, by omega, Lib.hid (HZ.out.set a (pq : Int)), Lib.hid (HBZ.out.setCell (p := ⟨w7.heap.size, a, none⟩) (Nat.le_refl _) _), HST, Lib.hid (fun j hj h0 => ?_)⟩
              by_cases e : j = a
              · subst e; rw [HQA.out, HPQ.out] at h0; exact absurd h0 HP0.out
              · exact HFF.out j (by omega) h0
        · have ea : n = a := by omega
          subst ea
          have hin := HPI.out.comp (HOY.out.1.inj (I := (setC I n (genC I (fun a b => elt I (nf lp a) (nf lp b)) n 0))) HN.out (by have := HK.out; show I.kind ≠ 1; omega))
          obtain ⟨j0, hj0, e0⟩ := hin.onto 0 hn1
          have hf0 := HFF.out j0 hj0 e0
          subst hf0
          have hfin := num3_fin HK.out HN.out hn1 HPI.out HOX.out HOY.out e0 hj0
          have HFZ := Lib.hid hfin
          have hBz : Below w7.heap.size w7 wr := HBZ.out
          have hgz := Row.lt HZ.out
          have cells : ∀ W : World, (∀ b o, b < wr.heap.size → W.cell? ⟨b, o, none⟩ = wr.cell? ⟨b, o, none⟩) → ∀ j, j < n → W.cell? ⟨w7.heap.size, j, none⟩ = some (.int .i64 ((nf lp (y.getD j 0).toNat : Nat) : Int)) := fun W hW j hj => by
            rw [hW w7.heap.size j hgz, HZ.out.cell hj, HZF.out j hj]
          have ex : ∀ W W' : World, W'.heap = W.heap → ∀ b o, W'.cell? ⟨b, o, none⟩ = W.cell? ⟨b, o, none⟩ := fun W W' e b o => by simp only [World.cell?, e]
          have al : Below wr.heap.size wr (wr.alloc (.cells #[] 3)) := (Below.refl _ _).alloc (Nat.le_refl _) _
          have HN1 := Lib.hid (show ∀ W : World, W.heap = (wr.alloc (.cells #[] 3)).heap → OwnI W wr.heap.size (.slice (some ⟨wr.heap.size, 0, none⟩) 0 0) [] ∧ wr.heap.size ≤ W.heap.size from fun W e =>
            ⟨⟨rfl, .inr ⟨wr.heap.size, 0, #[], rfl, Nat.le_refl _, by rw [e]; exact heap_new wr _ _ rfl, Nat.le_refl _, Nat.zero_le _, rfl, rfl⟩⟩, by rw [e]; simp⟩)
          have HC1 := Lib.hid (show ∀ W : World, W.heap = (wr.alloc (.cells #[] 3)).heap → (natL (n - f) fun j => nf lp (y.getD (f + j) 0).toNat).length = n - f ∧ ∃ ad, (if n = f then some (⟨w7.heap.size, 0, none⟩ : Addr) else some ⟨w7.heap.size, f, none⟩) = some ad ∧ ∀ j, j < n - f → W.cell? (ad.add j) = some (.int .i64 ((natL (n - f) fun j => nf lp (y.getD (f + j) 0).toNat).getD j 0)) from fun W e =>
            ⟨natL_len _ _, _, if_neg (by omega), fun j hj => by
              rw [addr_add, cells W (fun b o hb => (ex _ _ e b o).trans (al.cell (p := ⟨b, o, none⟩) hb)) _ (by omega), natL_get _ hj]⟩)
          have HC2 := Lib.hid (show ∀ Wx w4 W : World, Below wr.heap.size Wx w4 → Wx.heap = (wr.alloc (.cells #[] 3)).heap → W.heap = w4.heap → (natL f fun j => nf lp (y.getD j 0).toNat).length = f ∧ ∃ ad, some (⟨w7.heap.size, 0, none⟩ : Addr) = some ad ∧ ∀ j, j < f → W.cell? (ad.add j) = some (.int .i64 ((natL f fun j => nf lp (y.getD j 0).toNat).getD j 0)) from fun Wx w4 W hb e e2 =>
            ⟨natL_len _ _, _, rfl, fun j hj => by
              rw [row_slice, cells W (fun b o hb2 => (ex _ _ e2 b o).trans ((hb.cell (p := ⟨b, o, none⟩) hb2).trans ((ex _ _ e b o).trans (al.cell (p := ⟨b, o, none⟩) hb2)))) _ (by omega), natL_get _ hj]⟩)
          have HO4 := Lib.hid (show ∀ w4 W : World, ∀ v4 xs, OwnI w4 wr.heap.size v4 xs → wr.heap.size ≤ w4.heap.size → W.heap = w4.heap → OwnI W wr.heap.size v4 xs ∧ wr.heap.size ≤ W.heap.size from fun w4 W v4 xs h hs e => by
            refine ⟨⟨h.1, ?_⟩, by rw [e]; exact hs⟩
            rcases h.2 with h2 | ⟨g, cap, cur, e2, hb', hg, r⟩
            · exact .inl h2
            · exact .inr ⟨g, cap, cur, e2, hb', by rw [e]; exact hg, r⟩)
          have HK5 := Lib.hid (show ∀ Wx w4 Wy w5 : World, Below wr.heap.size Wx w4 → Below wr.heap.size Wy w5 → Wx.heap = (wr.alloc (.cells #[] 3)).heap → Wx.os = wr.os → Wx.tape = wr.tape → Wx.output = wr.output → Wy.heap = w4.heap → Wy.os = w4.os → Wy.tape = w4.tape → Wy.output = w4.output → Below wr.heap.size wr w5 from fun Wx w4 Wy w5 b4 b5 e1 e2 e3 e4 f1 f2 f3 f4 => by
            have c1 : Below wr.heap.size wr Wx := ⟨e2, e3, e4, by rw [e1]; exact al.size, fun k hk => by rw [e1]; exact al.block k hk⟩
            have c2 : Below wr.heap.size w4 Wy := ⟨f2, f3, f4, by rw [f1]; exact Nat.le_refl _, fun k hk => by rw [f1]⟩
            exact ((c1.trans b4).trans c2).trans b5)
          have hl1 : ([] : List Int).length + (n - f) ≤ 1000000 := by simp only [List.length_nil]; omega
          have hl2 : (([] : List Int) ++ natL (n - f) fun j => nf lp (y.getD (f + j) 0).toNat).length + f ≤ 1000000 := by rw [List.nil_append, natL_len]; omega
          have hq5 : (f : Int) ≤ (n : Int) := by omega
          have hni : ¬ (n : Int) < (n : Int) := by omega
          clear cells ex al hgz hBz hfin e0 hin
          go_upto_region 38 with (fail)
          go_cut [19] (fun v19 wc => ∃ A c, v19 = .slice A n c ∧ Hid (Below wr.heap.size wr wc ∧ IntsAt wc A (natL n fun j => nf lp (y.getD ((j + f) % n) 0).toNat)))
          case first =>
            go_region_held3 (fun w' => True) (first | trivial | go_keep)
              (first | ((refine step_append_spread wr.heap.size v4 _ rfl _ (HO4.out _ _ _ _ o4 (Nat.le_trans (HN1.out _ rfl).2 b4.size) rfl) _ f _ _ (HC2.out _ _ _ b4 rfl rfl) rfl hl2 ?_; intro v5 w5 o5 b5)) | ((refine step_append_spread wr.heap.size (.slice (some ⟨wr.heap.size, 0, none⟩) 0 0) [] rfl _ (HN1.out _ rfl) _ (n - f) _ _ (HC1.out _ rfl) rfl hl1 ?_; intro v4 w4 o4 b4)) | fail)
            all_goals go_wp2
            all_goals go_meet
            all_goals
              have hlist : ([] ++ (natL (n - f) fun j => nf lp (y.getD (f + j) 0).toNat)) ++ (natL f fun j => nf lp (y.getD j 0).toNat) = natL n fun j => nf lp (y.getD ((j + f) % n) 0).toNat := natL_turn (by omega) fun j => nf lp (y.getD j 0).toNat
              rw [hlist] at o5
              obtain ⟨A, c, e, -, hi⟩ := o5.at
              rw [natL_len] at e
              exact ⟨A, c, e, Lib.hid ⟨HK5.out _ _ _ _ b4 b5 rfl rfl rfl rfl rfl rfl rfl rfl, hi⟩⟩
          case rest =>
            obtain ⟨Az, cz, rfl, HXC⟩ := hcut
            have hBc := keep_trans HBk.out (keep_trans (keep_trans HB7.out HBZ.out) HXC.out.1)
            have hxi := heap_keep (heap_keep HXi7.out HBZ.out) HXC.out.1
            have y0 := blk_cell hxi 0
            have y1 := blk_cell hxi 1
            have y2 := blk_cell hxi 2
            have y3 := blk_cell hxi 3
            have y4 := blk_cell hxi 4
            have y5 := blk_cell hxi 5
            have hco := HCO.out wc Az cz _ (HV.out.keep hBc) HXC.out.2 HFZ.out.1
            rw [natL_len, HFZ.out.2, HC.out] at hco
            have HBC := Lib.hid hBc
            clear hxi hBc
            have HCO2 := Lib.hid hco
            have hcc : (C == C) = true := by simp
            clear hco HCO
            go_wp2_with fail
            refine HCO2.out.mono ?_
            rintro e w8 ⟨rfl, hb8⟩
            have HB8 := Lib.hid hb8
            clear hb8
            go_wp2
            go_ret
            exact ⟨rfl, keep_trans HBC.out HB8.out⟩
end Go.Proofs.YtmfgffmlnfimcaaDoor
