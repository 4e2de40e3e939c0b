/- The walk of WholeRaised at assignments and tours. -/
import Derived.Test.YtmfgffmlnfimcaaDoorT6
import Derived.Test.YtmfgffmlnfimcaaDoorM7
import Derived.BigQuiet
namespace Go.Proofs.YtmfgffmlnfimcaaDoor
open Go Go.RowKit Go.Shelf Go.Sort

/-- The costs while a row, or a column, is raised. -/
def rowC (I : Inst) (K : Int) (q : Nat) (m : Int) (a : Nat) : Nat → Nat → Int := fun x y => elt I x y + if x = q ∧ y < a ∧ (K = 2 ∨ x ≠ y) then m else 0
def colC (I : Inst) (K : Int) (q : Nat) (m : Int) (a : Nat) : Nat → Nat → Int := fun x y => elt I x y + if y = q ∧ x < a ∧ (K = 2 ∨ x ≠ y) then m else 0
theorem rowC_zero (I : Inst) (K : Int) (q : Nat) (m : Int) (x y : Nat) : rowC I K q m 0 x y = elt I x y := by unfold rowC; rw [if_neg (by omega)]; omega
theorem colC_zero (I : Inst) (K : Int) (q : Nat) (m : Int) (x y : Nat) : colC I K q m 0 x y = elt I x y := by unfold colC; rw [if_neg (by omega)]; omega
theorem rowC_at (I : Inst) (K : Int) (q : Nat) (m : Int) (a : Nat) : rowC I K q m a q a = elt I q a := by unfold rowC; rw [if_neg (by omega)]; omega
theorem colC_at (I : Inst) (K : Int) (q : Nat) (m : Int) (a : Nat) : colC I K q m a a q = elt I a q := by unfold colC; rw [if_neg (by omega)]; omega
theorem rowC_step (I : Inst) {K : Int} {q : Nat} (m : Int) {a : Nat} (h : K = 2 ∨ q ≠ a) (x y : Nat) : upd (rowC I K q m a) q (upd (rowC I K q m a q) a (elt I q a + m)) x y = rowC I K q m (a + 1) x y := by
  by_cases e : x = q
  · subst e
    rw [upd_same]
    by_cases e2 : y = a
    · subst e2; rw [upd_same]; unfold rowC; rw [if_pos ⟨rfl, by omega, h⟩]
    · rw [upd_other _ e2]; unfold rowC
      by_cases h2 : y < a ∧ (K = 2 ∨ x ≠ y)
      · rw [if_pos ⟨rfl, h2⟩, if_pos ⟨rfl, by omega, h2.2⟩]
      · rw [if_neg (fun h3 => h2 h3.2), if_neg (fun h3 => h2 ⟨by omega, h3.2.2⟩)]
  · rw [upd_other _ e]; unfold rowC
    rw [if_neg (fun h3 => e h3.1), if_neg (fun h3 => e h3.1)]
theorem colC_step (I : Inst) {K : Int} {q : Nat} (m : Int) {a : Nat} (h : K = 2 ∨ a ≠ q) (x y : Nat) : upd (colC I K q m a) a (upd (colC I K q m a a) q (elt I a q + m)) x y = colC I K q m (a + 1) x y := by
  by_cases e : x = a
  · subst e
    rw [upd_same]
    by_cases e2 : y = q
    · subst e2; rw [upd_same]; unfold colC; rw [if_pos ⟨rfl, by omega, h⟩]
    · rw [upd_other _ e2]; unfold colC
      rw [if_neg (fun h3 => e2 h3.1), if_neg (fun h3 => e2 h3.1)]
  · rw [upd_other _ e]; unfold colC
    by_cases h2 : y = q ∧ x < a ∧ (K = 2 ∨ x ≠ y)
    · rw [if_pos h2, if_pos ⟨h2.1, by omega, h2.2.2⟩]
    · rw [if_neg h2, if_neg (fun h3 => h2 ⟨h3.1, by omega, h3.2.2⟩)]
theorem rowC_skip (I : Inst) {K : Int} {q : Nat} (m : Int) {a : Nat} (h : ¬ (K = 2 ∨ q ≠ a)) (x y : Nat) : rowC I K q m a x y = rowC I K q m (a + 1) x y := by
  unfold rowC
  by_cases h2 : x = q ∧ y < a ∧ (K = 2 ∨ x ≠ y)
  · rw [if_pos h2, if_pos ⟨h2.1, by omega, h2.2.2⟩]
  · rw [if_neg h2, if_neg (fun h3 => h2 ⟨h3.1, by rcases h3.2.2 with h4 | h4 <;> omega, h3.2.2⟩)]
theorem colC_skip (I : Inst) {K : Int} {q : Nat} (m : Int) {a : Nat} (h : ¬ (K = 2 ∨ a ≠ q)) (x y : Nat) : colC I K q m a x y = colC I K q m (a + 1) x y := by
  unfold colC
  by_cases h2 : y = q ∧ x < a ∧ (K = 2 ∨ x ≠ y)
  · rw [if_pos h2, if_pos ⟨h2.1, by omega, h2.2.2⟩]
  · rw [if_neg h2, if_neg (fun h3 => h2 ⟨h3.1, by rcases h3.2.2 with h4 | h4 <;> omega, h3.2.2⟩)]

theorem row2_fin {I : Inst} (hk : I.kind = 2) {n : Nat} (hn : I.n = (n : Int)) {q : Nat} (hq : q < n) {m : Int} {x y : List Int} (hx : Opt I x) (hy : Opt (setC I n (rowC I 2 q m n)) y) : costOf (setC I n (rowC I 2 q m n)) y = costOf I x + m := by
  have h1 := (hx.best2 hk hn).more (B := fun a b => elt I a b + if a = q then m else 0) (d := m) fun y hy => raised2_row hq
  have h2 := hy.best2 (I := setC I n (rowC I 2 q m n)) hk hn
  refine h2.eq (h1.congr fun a b ha hb => ?_)
  rw [elt_setC I _ ha hb]; unfold rowC
  by_cases e : a = q
  · rw [if_pos e, if_pos ⟨e, hb, .inl rfl⟩]
  · rw [if_neg e, if_neg fun h => e h.1]
theorem col2_fin {I : Inst} (hk : I.kind = 2) {n : Nat} (hn : I.n = (n : Int)) {q : Nat} (hq : q < n) {m : Int} {x y : List Int} (hx : Opt I x) (hy : Opt (setC I n (colC I 2 q m n)) y) : costOf (setC I n (colC I 2 q m n)) y = costOf I x + m := by
  have h1 := (hx.best2 hk hn).more (B := fun a b => elt I a b + if b = q then m else 0) (d := m) fun y hy => raised2_col hq hy
  have h2 := hy.best2 (I := setC I n (colC I 2 q m n)) hk hn
  refine h2.eq (h1.congr fun a b ha hb => ?_)
  rw [elt_setC I _ ha hb]; unfold colC
  by_cases e : b = q
  · rw [if_pos e, if_pos ⟨e, ha, .inl rfl⟩]
  · rw [if_neg e, if_neg fun h => e h.1]
theorem row3_fin {I : Inst} (hk : I.kind = 3) {n : Nat} (hn : I.n = (n : Int)) {q : Nat} (hq : q < n) {m : Int} {x y : List Int} (hx : Opt I x) (hy : Opt (setC I n (rowC I 3 q m n)) y) : costOf (setC I n (rowC I 3 q m n)) y = costOf I x + (if n = 1 then 0 else m) := by
  have h2 := hy.best3 (I := setC I n (rowC I 3 q m n)) hk hn (by omega)
  by_cases h : n = 1
  · rw [if_pos h, Int.add_zero]
    refine h2.eq ((hx.best3 hk hn (by omega)).congr (by omega) fun a b ha hb => ?_)
    rw [elt_setC I _ ha hb]; unfold rowC
    rw [if_neg (by omega), Int.add_zero]
  · rw [if_neg h]
    have h1 := (hx.best3 hk hn (by omega)).more (B := fun a b => elt I a b + if a = q ∧ a ≠ b then m else 0) (d := m) fun y hy => raised3_row (by omega) hq hy
    refine h2.eq (h1.congr (by omega) fun a b ha hb => ?_)
    rw [elt_setC I _ ha hb]; unfold rowC
    by_cases e : a = q ∧ a ≠ b
    · rw [if_pos e, if_pos ⟨e.1, hb, .inr e.2⟩]
    · rw [if_neg e, if_neg fun h => e ⟨h.1, by omega⟩]
theorem col3_fin {I : Inst} (hk : I.kind = 3) {n : Nat} (hn : I.n = (n : Int)) {q : Nat} (hq : q < n) {m : Int} {x y : List Int} (hx : Opt I x) (hy : Opt (setC I n (colC I 3 q m n)) y) : costOf (setC I n (colC I 3 q m n)) y = costOf I x + (if n = 1 then 0 else m) := by
  have h2 := hy.best3 (I := setC I n (colC I 3 q m n)) hk hn (by omega)
  by_cases h : n = 1
  · rw [if_pos h, Int.add_zero]
    refine h2.eq ((hx.best3 hk hn (by omega)).congr (by omega) fun a b ha hb => ?_)
    rw [elt_setC I _ ha hb]; unfold colC
    rw [if_neg (by omega), Int.add_zero]
  · rw [if_neg h]
    have h1 := (hx.best3 hk hn (by omega)).more (B := fun a b => elt I a b + if b = q ∧ a ≠ b then m else 0) (d := m) fun y hy => raised3_col (by omega) hq hy
    refine h2.eq (h1.congr (by omega) fun a b ha hb => ?_)
    rw [elt_setC I _ ha hb]; unfold colC
    by_cases e : b = q ∧ a ≠ b
    · rw [if_pos e, if_pos ⟨e.1, ha, .inr e.2⟩]
    · rw [if_neg e, if_neg fun h => e ⟨h.1, by omega⟩]

theorem Mat.drewN {w : World} {B g n : Nat} {r cp : Nat → Nat} {f : Nat → Nat → Int} (h : Mat w B g n r cp f) (k : Nat) : Mat (w.drewN k) B g n r cp f := h.below (below_drewN (Below.refl _ _) k)

/-- What an answer costs lies within bounds. -/
theorem cost_range {I : Inst} (hI : WF I) {x : List Int} (hx : Feas I x) (hk : I.kind ≠ 1) : 0 ≤ costOf I x ∧ costOf I x ≤ 51539607528 := by
  obtain ⟨n, hn, h1, h24, hkk, -, -, -, -, -, hok, -⟩ := hI.rows hk
  have hi := hx.inj hn hk
  have hb : ∀ f : Nat → Int, (∀ j, j < n → 0 ≤ f j ∧ f j ≤ 2147483647) → 0 ≤ sumTo n f ∧ sumTo n f ≤ 51539607528 := fun f hf => by
    have := sumTo_range (Nat.le_refl n) hf
    omega
  rcases hkk with h | h
  · rw [cost2 h hn]
    exact hb _ fun j hj => hok j _ hj (hi.1 j hj)
  · rw [cost3 h hn]
    exact hb _ fun j hj => hok _ _ (hi.1 j hj) (hi.1 _ (Nat.mod_lt _ h1))

set_option maxRecDepth 200000 in
set_option maxHeartbeats 2000000 in
theorem raised_2row (I : Inst) (hI : WF I) (hL : isLarge I = true) (hk : I.kind = 2) (v : Value) (w : World) (hv : InstAt w v I) (hT : TabW w) (an bn kk q m n : Nat) (hn : I.n = (n : Int)) (han : an < 256) (hbn : bn < 4294967296) (hm : bn % 2147483648 = m) (hkk : an % (2 * n) = kk) (hq : kk % n = q) (hmode : kk < n) :
    Calls Tryd.prog 7 #[v, .int .u8 (an : Nat), .int .u32 (bn : Nat)] w fun e w' => e = .returned (.bool true) ∧ Below w.heap.size w w' := by
  obtain ⟨n', hn', hn1, hn24, -, hlen, hcap, hws, hvs, hrow, hok, hdiag⟩ := hI.rows (by omega)
  obtain rfl : n = n' := by omega
  have hlim := large_lim hL
  have hqn : q < n := by rw [← hq]; exact Nat.mod_lt _ hn1
  have HS := Lib.hid (fun W => stands_any W)
  have HLG := Lib.hid (fun W hv => large_true I hI hL v W hv)
  have HCP := Lib.hid (fun W hv => copy_mat I hI hk (by decide) hn v W hv)
  have HBI := Lib.hid (fun W hv hT => topbest_any I hI hlim v W hv hT)
  have hJL : Lim (setC I n (rowC I 2 q m n)) := hlim
  have HBJ := Lib.hid (fun (hJ : WF (setC I n (rowC I 2 q m n))) W v hv hT => topbest_any (setC I n (rowC I 2 q m n)) hJ hJL v W hv hT)
  have HCK := Lib.hid (fun W v hv => check_any (setC I n (rowC I 2 q m n)) v W hv)
  have hIJ := fun W B g r cp c A8 A11 c8 c11 (hM : Mat W B g n r cp (rowC I 2 q m n)) (hc : n ≤ c) => instAt_mat (A8 := A8) (A11 := A11) (c8 := c8) (c11 := c11) hI (by omega) hn hn24 hM hc
  rw [hk, hn, hcap] at hIJ
  have HIJ := Lib.hid hIJ
  have HFIN := Lib.hid (fun x y (hx : Opt I x) (hy : Opt (setC I n (rowC I 2 q m n)) y) => row2_fin hk hn hqn hx hy)
  have HI := Lib.hid hI
  have HK := Lib.hid hk
  have HOK := Lib.hid hok
  have HV := Lib.hid hv
  have HT := Lib.hid hT
  have hb : ∀ o : Obj, Below w.heap.size w (w.alloc o) := fun o => (Below.refl _ _).alloc (Nat.le_refl _) o
  have HB := Lib.hid hb
  obtain ⟨A1, c1, A2, c2, A3, c3, rfl, hc3, h10⟩ := hv.mform hI hk (by decide) hn
  have hm1 : (bn : Int) % 2147483648 = (m : Int) := by rw [← hm]; simp
  have hm2 : (bn : Int).tmod 2147483648 = (m : Int) := by rw [Int.tmod_eq_emod_of_nonneg (by omega)]; exact hm1
  have hk1 : (an : Int) % (2 * (n : Int)) = (kk : Int) := by rw [← hkk]; simp
  have hk2 : (an : Int).tmod (2 * (n : Int)) = (kk : Int) := by rw [Int.tmod_eq_emod_of_nonneg (by omega)]; exact hk1
  have hq1 : (kk : Int) % (n : Int) = (q : Int) := by rw [← hq]; simp
  have hq2 : (kk : Int).tmod (n : Int) = (q : Int) := by rw [Int.tmod_eq_emod_of_nonneg (by omega)]; exact hq1
  have hml : (m : Int) < 2147483648 := by omega
  have hkl : (kk : Int) < 2 * (n : Int) := by have := Nat.mod_lt an (show 0 < 2 * n by omega); omega
  have han2 : (an : Int) < 256 := by omega
  have hbn2 : (bn : Int) < 4294967296 := by omega
  have hmd : ¬ (n : Int) ≤ (kk : Int) := by omega
  have hqi : (q : Int) < (n : Int) := by omega
  clear hI hL hk hv hT hlim hJL hIJ hn hn' hrow hlen hws hvs hok hdiag hb h10 hcap hm hkk hq hmode han hbn
  go_enter Tryd.func7, Tryd.ntmps7
  go_wp2_with fail
  refine (HS.out _).mono ?_
  rintro e w1 ⟨rfl, hb1⟩
  have hB1 := keep_box hb1
  obtain ⟨hc1, hf1⟩ := bcell hb1
  have hbx1 := heap_keep (heap_new w (.cells #[.int .i64 2, .int .i64 (n : Int), .int .i64 0, .slice A1 0 c1, .slice A2 0 c2, .slice A3 n c3] 25 (0, 0)) _ rfl) hb1
  have HX1 := Lib.hid hbx1
  have HB1 := Lib.hid hB1
  clear hb1 hB1 hbx1
  go_wp2_with fail
  refine (HLG.out _ (HV.out.keep HB1.out)).mono ?_
  rintro e w2 ⟨rfl, hb2⟩
  have hbx2 := heap_keep HX1.out hb2
  have HX2 := Lib.hid hbx2
  have HB2 := Lib.hid (keep_trans HB1.out hb2)
  have y0 := blk_cell hbx2 0
  have y1 := blk_cell hbx2 1
  have y2 := blk_cell hbx2 2
  have y3 := blk_cell hbx2 3
  have y4 := blk_cell hbx2 4
  have y5 := blk_cell hbx2 5
  clear hc1 hf1 hb2 hbx2 HX1 HB1
  go_wp2_with fail
  refine (HCP.out _ (HV.out.keep HB2.out)).mono ?_
  rintro e w3 ⟨A8, c8, A11, c11, g, c5, r, cp, B, rfl, hcc5, hBB, hM, hb3⟩
  have hws := HB2.out.size
  have hxl := heap_lt HX2.out
  have hbx3 := heap_keep HX2.out hb3
  have HX3 := Lib.hid hbx3
  have HB3 := Lib.hid (keep_trans HB2.out hb3)
  have HM := Lib.hid hM
  clear y0 y1 y2 y3 y4 y5
  have y0 := blk_cell hbx3 0
  have y1 := blk_cell hbx3 1
  have hxl3 := heap_lt hbx3
  clear hM hb3 HX2 HB2 hbx3
  go_wp2
  have HML := Lib.hid hml
  clear y0 y1 hxl3 hm1 hm2 hk1 hk2 hbn2 han2 hml hkl
  go_loopg [10] n (fun gg v10 wr => ∃ a : Nat, v10 = .int .i64 a ∧ a + gg = n ∧ Hid (Mat wr B g n r cp (rowC I 2 q m a)) ∧ Hid (Keep (RowSet n r) (w3.alloc (.cells #[.int .i64 2, .int .i64 (n : Int), .int .i64 0, .slice A8 0 c8, .slice A11 0 c11, .slice (some ⟨g, 0, none⟩) n c5] 25 (0, 0))) wr))
  case atStart => exact ⟨0, rfl, by omega, Lib.hid ((HM.out.below ((Below.refl _ _).alloc (Nat.le_refl _) _)).congr fun a b _ _ => (rowC_zero I 2 q m a b).symm), Lib.hid (Keep.refl _ _)⟩
  case round =>
    obtain ⟨a, rfl, ha, HMr, HKr⟩ := hrel
    have hx1 : ¬ RowSet n r w.heap.size := fun ⟨j, hj, e⟩ => by have := (HM.out.far j hj).2.1; omega
    have hx3 : ¬ RowSet n r w3.heap.size := fun ⟨j, hj, e⟩ => by have := (HM.out.arr j hj).lt; omega
    have hbi := HKr.out.heap (heap_old' HX3.out _) hx1
    have hbj := HKr.out.heap (heap_new w3 _ _ rfl) hx3
    have y0 := blk_cell hbi 0
    have y1 := blk_cell hbi 1
    have y2 := blk_cell hbi 2
    have y3 := blk_cell hbi 3
    have y4 := blk_cell hbi 4
    have y5 := blk_cell hbi 5
    have hBw : Below w.heap.size w wr := (HB3.out.trans ((HKr.out.below (B := w.heap.size) (by have := HB3.out.size; simp; omega) (fun k hk ⟨j, hj, e⟩ => by have := (HM.out.far j hj).2.1; omega)).trans (Below.refl _ _) |> fun h => ((Below.refl _ _).alloc (by have := HB3.out.size; exact this) _).trans h))
    have HBw := Lib.hid hBw
    have HXi := Lib.hid hbi
    have HXj := Lib.hid hbj
    clear hBw hx1 hx3 hbi
    by_cases ca : a < n
    · have hai : (a : Int) < (n : Int) := by omega
      have z5 := blk_cell hbj 5
      clear hbj
      have HMq := HMr
      have HKq := HKr
      have HCOND := Lib.hid (show (2 : Int) = 2 ∨ q ≠ a from .inl rfl)
      have r1 := HMq.out.row.cell (hqn)
      have r2 := (HMq.out.arr q (hqn)).cell (show a < n from ca)
      have r3 := (HMq.out.arr q (hqn)).free a
      rw [rowC_at] at r2
      obtain ⟨E, hE⟩ : ∃ E, elt I q a = E := ⟨_, rfl⟩
      rw [hE] at r2
      have hEok := HOK.out q a (hqn) (ca)
      rw [hE] at hEok
      unfold numOk at hEok
      have hsumE : IntKind.i64.wrap (E + (m : Int)) = E + (m : Int) := by have := HML.out; rw [IntKind.wrap_i64]; omega
      have HE := Lib.hid hE
      have HSE := Lib.hid hsumE
      clear hE hEok
      have hcp := (HM.out.far q (hqn)).1
      have hRn : (q : Int) < (n : Int) := by omega
      have hCn : (a : Int) < (n : Int) := by omega
      clear hsumE
      have hmd3 : ¬ (n : Int) ≤ (kk : Int) := by omega
      clear hmd
      go_wp2
      have hsumE : IntKind.i64.wrap (E + (m : Int)) = E + (m : Int) := HSE.out
      go_region
      all_goals go_wp2
      all_goals go_roundg (gk - 1)
      case measure => omega
      case rel =>
        exact ⟨a + 1, by go_num, by omega, Lib.hid ((((HMq.out).set (hqn) a (E + m)).congr fun x y _ _ => by rw [← HE.out]; exact rowC_step I m (K := 2) (by first | exact HCOND.out | exact .inl rfl) x y).drew), Lib.hid (((HKq.out).setCell (p := ⟨r q, a, none⟩) ⟨q, hqn, rfl⟩ _).drew)⟩
    · have ea : n = a := by omega
      subst ea
      clear hbj
      have hxj := HXj.out
      have z0 := blk_cell hxj 0
      have z1 := blk_cell hxj 1
      have z2 := blk_cell hxj 2
      have z3 := blk_cell hxj 3
      have z4 := blk_cell hxj 4
      have z5 := blk_cell hxj 5
      clear hxj HKr
      go_wp2_with fail
      refine (HCK.out wr _ (HIJ.out wr B g r cp c5 A8 A11 c8 c11 HMr.out hcc5)).mono ?_
      rintro e w4 ⟨rr, rfl, hrr, hb4⟩
      have HB4 := Lib.hid (keep_trans HBw.out hb4)
      have HXi4 := Lib.hid (heap_keep HXi.out hb4)
      have HXj4 := Lib.hid (heap_keep HXj.out hb4)
      have HM4 := Lib.hid (HMr.out.below hb4)
      have HWJ := Lib.hid hrr
      have hxi4 := HXi4.out
      clear y0 y1 y2 y3 y4 y5
      have y0 := blk_cell hxi4 0
      have y1 := blk_cell hxi4 1
      have y2 := blk_cell hxi4 2
      have y3 := blk_cell hxi4 3
      have y4 := blk_cell hxi4 4
      have y5 := blk_cell hxi4 5
      clear z0 z1 z2 z3 z4 z5 hrr hb4 hxi4 HXi HXj HMr HBw
      rcases Bool.eq_false_or_eq_true (rr != 0) with hr0 | hr0
      · clear HWJ
        go_wp2
        go_ret
        exact ⟨rfl, HB4.out⟩
      have hr0' : rr = 0 := by simpa using hr0
      subst hr0'
      clear hr0
      go_wp2_with fail
      refine (HBI.out w4 (HV.out.keep HB4.out) (HT.out.keep HB4.out)).mono ?_
      rintro e w5 ⟨x, Ax, cx, rfl, hox, hxc, hix, hb5⟩
      have hrg := cost_range HI.out hox.1 (by have := HK.out; omega)
      obtain ⟨C, hC⟩ : ∃ C, costOf I x = C := ⟨_, rfl⟩
      rw [hC] at hrg ⊢
      have HRG := Lib.hid hrg
      have HC := Lib.hid hC
      clear hrg
      have HOX := Lib.hid hox
      have HXj5 := Lib.hid (heap_keep HXj4.out hb5)
      have HB5 := Lib.hid (keep_trans HB4.out hb5)
      have HM5 := Lib.hid (HM4.out.below hb5)
      have hxj5 := HXj5.out
      have z0 := blk_cell hxj5 0
      have z1 := blk_cell hxj5 1
      have z2 := blk_cell hxj5 2
      have z3 := blk_cell hxj5 3
      have z4 := blk_cell hxj5 4
      have z5 := blk_cell hxj5 5
      clear hC hox hxc hix hb5 hxj5
      go_wp2_with fail
      refine (HBJ.out (HWJ.out.1 (by first | rfl | trivial)) w5 _ (HIJ.out w5 B g r cp c5 A8 A11 c8 c11 HM5.out hcc5) (HT.out.keep HB5.out)).mono ?_
      rintro e w6 ⟨y, Ay, cy, rfl, hoy, hyc, hiy, hb6⟩
      have hcy := HFIN.out x y HOX.out hoy
      rw [HC.out] at hcy
      rw [hcy]
      have HB6 := Lib.hid (keep_trans HB5.out hb6)
      clear hcy hoy hyc hiy hb6 z0 z1 z2 z3 z4 z5
      have hsum : IntKind.i64.wrap (C + (m : Int)) = C + (m : Int) := by have := HML.out; have := HRG.out; rw [IntKind.wrap_i64]; omega
      have heq : (C + (m : Int) == C + (m : Int)) = true := by simp
      go_wp2
      go_ret
      exact ⟨rfl, HB6.out⟩

set_option maxRecDepth 200000 in
set_option maxHeartbeats 2000000 in
theorem raised_2col (I : Inst) (hI : WF I) (hL : isLarge I = true) (hk : I.kind = 2) (v : Value) (w : World) (hv : InstAt w v I) (hT : TabW w) (an bn kk q m n : Nat) (hn : I.n = (n : Int)) (han : an < 256) (hbn : bn < 4294967296) (hm : bn % 2147483648 = m) (hkk : an % (2 * n) = kk) (hq : kk % n = q) (hmode : n ≤ kk) :
    Calls Tryd.prog 7 #[v, .int .u8 (an : Nat), .int .u32 (bn : Nat)] w fun e w' => e = .returned (.bool true) ∧ Below w.heap.size w w' := by
  obtain ⟨n', hn', hn1, hn24, -, hlen, hcap, hws, hvs, hrow, hok, hdiag⟩ := hI.rows (by omega)
  obtain rfl : n = n' := by omega
  have hlim := large_lim hL
  have hqn : q < n := by rw [← hq]; exact Nat.mod_lt _ hn1
  have HS := Lib.hid (fun W => stands_any W)
  have HLG := Lib.hid (fun W hv => large_true I hI hL v W hv)
  have HCP := Lib.hid (fun W hv => copy_mat I hI hk (by decide) hn v W hv)
  have HBI := Lib.hid (fun W hv hT => topbest_any I hI hlim v W hv hT)
  have hJL : Lim (setC I n (colC I 2 q m n)) := hlim
  have HBJ := Lib.hid (fun (hJ : WF (setC I n (colC I 2 q m n))) W v hv hT => topbest_any (setC I n (colC I 2 q m n)) hJ hJL v W hv hT)
  have HCK := Lib.hid (fun W v hv => check_any (setC I n (colC I 2 q m n)) v W hv)
  have hIJ := fun W B g r cp c A8 A11 c8 c11 (hM : Mat W B g n r cp (colC I 2 q m n)) (hc : n ≤ c) => instAt_mat (A8 := A8) (A11 := A11) (c8 := c8) (c11 := c11) hI (by omega) hn hn24 hM hc
  rw [hk, hn, hcap] at hIJ
  have HIJ := Lib.hid hIJ
  have HFIN := Lib.hid (fun x y (hx : Opt I x) (hy : Opt (setC I n (colC I 2 q m n)) y) => col2_fin hk hn hqn hx hy)
  have HI := Lib.hid hI
  have HK := Lib.hid hk
  have HOK := Lib.hid hok
  have HV := Lib.hid hv
  have HT := Lib.hid hT
  have hb : ∀ o : Obj, Below w.heap.size w (w.alloc o) := fun o => (Below.refl _ _).alloc (Nat.le_refl _) o
  have HB := Lib.hid hb
  obtain ⟨A1, c1, A2, c2, A3, c3, rfl, hc3, h10⟩ := hv.mform hI hk (by decide) hn
  have hm1 : (bn : Int) % 2147483648 = (m : Int) := by rw [← hm]; simp
  have hm2 : (bn : Int).tmod 2147483648 = (m : Int) := by rw [Int.tmod_eq_emod_of_nonneg (by omega)]; exact hm1
  have hk1 : (an : Int) % (2 * (n : Int)) = (kk : Int) := by rw [← hkk]; simp
  have hk2 : (an : Int).tmod (2 * (n : Int)) = (kk : Int) := by rw [Int.tmod_eq_emod_of_nonneg (by omega)]; exact hk1
  have hq1 : (kk : Int) % (n : Int) = (q : Int) := by rw [← hq]; simp
  have hq2 : (kk : Int).tmod (n : Int) = (q : Int) := by rw [Int.tmod_eq_emod_of_nonneg (by omega)]; exact hq1
  have hml : (m : Int) < 2147483648 := by omega
  have hkl : (kk : Int) < 2 * (n : Int) := by have := Nat.mod_lt an (show 0 < 2 * n by omega); omega
  have han2 : (an : Int) < 256 := by omega
  have hbn2 : (bn : Int) < 4294967296 := by omega
  have hmd : (n : Int) ≤ (kk : Int) := by omega
  have hqi : (q : Int) < (n : Int) := by omega
  clear hI hL hk hv hT hlim hJL hIJ hn hn' hrow hlen hws hvs hok hdiag hb h10 hcap hm hkk hq hmode han hbn
  go_enter Tryd.func7, Tryd.ntmps7
  go_wp2_with fail
  refine (HS.out _).mono ?_
  rintro e w1 ⟨rfl, hb1⟩
  have hB1 := keep_box hb1
  obtain ⟨hc1, hf1⟩ := bcell hb1
  have hbx1 := heap_keep (heap_new w (.cells #[.int .i64 2, .int .i64 (n : Int), .int .i64 0, .slice A1 0 c1, .slice A2 0 c2, .slice A3 n c3] 25 (0, 0)) _ rfl) hb1
  have HX1 := Lib.hid hbx1
  have HB1 := Lib.hid hB1
  clear hb1 hB1 hbx1
  go_wp2_with fail
  refine (HLG.out _ (HV.out.keep HB1.out)).mono ?_
  rintro e w2 ⟨rfl, hb2⟩
  have hbx2 := heap_keep HX1.out hb2
  have HX2 := Lib.hid hbx2
  have HB2 := Lib.hid (keep_trans HB1.out hb2)
  have y0 := blk_cell hbx2 0
  have y1 := blk_cell hbx2 1
  have y2 := blk_cell hbx2 2
  have y3 := blk_cell hbx2 3
  have y4 := blk_cell hbx2 4
  have y5 := blk_cell hbx2 5
  clear hc1 hf1 hb2 hbx2 HX1 HB1
  go_wp2_with fail
  refine (HCP.out _ (HV.out.keep HB2.out)).mono ?_
  rintro e w3 ⟨A8, c8, A11, c11, g, c5, r, cp, B, rfl, hcc5, hBB, hM, hb3⟩
  have hws := HB2.out.size
  have hxl := heap_lt HX2.out
  have hbx3 := heap_keep HX2.out hb3
  have HX3 := Lib.hid hbx3
  have HB3 := Lib.hid (keep_trans HB2.out hb3)
  have HM := Lib.hid hM
  clear y0 y1 y2 y3 y4 y5
  have y0 := blk_cell hbx3 0
  have y1 := blk_cell hbx3 1
  have hxl3 := heap_lt hbx3
  clear hM hb3 HX2 HB2 hbx3
  go_wp2
  have HML := Lib.hid hml
  clear y0 y1 hxl3 hm1 hm2 hk1 hk2 hbn2 han2 hml hkl
  go_loopg [10] n (fun gg v10 wr => ∃ a : Nat, v10 = .int .i64 a ∧ a + gg = n ∧ Hid (Mat wr B g n r cp (colC I 2 q m a)) ∧ Hid (Keep (RowSet n r) (w3.alloc (.cells #[.int .i64 2, .int .i64 (n : Int), .int .i64 0, .slice A8 0 c8, .slice A11 0 c11, .slice (some ⟨g, 0, none⟩) n c5] 25 (0, 0))) wr))
  case atStart => exact ⟨0, rfl, by omega, Lib.hid ((HM.out.below ((Below.refl _ _).alloc (Nat.le_refl _) _)).congr fun a b _ _ => (colC_zero I 2 q m a b).symm), Lib.hid (Keep.refl _ _)⟩
  case round =>
    obtain ⟨a, rfl, ha, HMr, HKr⟩ := hrel
    have hx1 : ¬ RowSet n r w.heap.size := fun ⟨j, hj, e⟩ => by have := (HM.out.far j hj).2.1; omega
    have hx3 : ¬ RowSet n r w3.heap.size := fun ⟨j, hj, e⟩ => by have := (HM.out.arr j hj).lt; omega
    have hbi := HKr.out.heap (heap_old' HX3.out _) hx1
    have hbj := HKr.out.heap (heap_new w3 _ _ rfl) hx3
    have y0 := blk_cell hbi 0
    have y1 := blk_cell hbi 1
    have y2 := blk_cell hbi 2
    have y3 := blk_cell hbi 3
    have y4 := blk_cell hbi 4
    have y5 := blk_cell hbi 5
    have hBw : Below w.heap.size w wr := (HB3.out.trans ((HKr.out.below (B := w.heap.size) (by have := HB3.out.size; simp; omega) (fun k hk ⟨j, hj, e⟩ => by have := (HM.out.far j hj).2.1; omega)).trans (Below.refl _ _) |> fun h => ((Below.refl _ _).alloc (by have := HB3.out.size; exact this) _).trans h))
    have HBw := Lib.hid hBw
    have HXi := Lib.hid hbi
    have HXj := Lib.hid hbj
    clear hBw hx1 hx3 hbi
    by_cases ca : a < n
    · have hai : (a : Int) < (n : Int) := by omega
      have z5 := blk_cell hbj 5
      clear hbj
      have HMq := HMr
      have HKq := HKr
      have HCOND := Lib.hid (show (2 : Int) = 2 ∨ a ≠ q from .inl rfl)
      have r1 := HMq.out.row.cell (ca)
      have r2 := (HMq.out.arr a (ca)).cell (show q < n from hqn)
      have r3 := (HMq.out.arr a (ca)).free q
      rw [colC_at] at r2
      obtain ⟨E, hE⟩ : ∃ E, elt I a q = E := ⟨_, rfl⟩
      rw [hE] at r2
      have hEok := HOK.out a q (ca) (hqn)
      rw [hE] at hEok
      unfold numOk at hEok
      have hsumE : IntKind.i64.wrap (E + (m : Int)) = E + (m : Int) := by have := HML.out; rw [IntKind.wrap_i64]; omega
      have HE := Lib.hid hE
      have HSE := Lib.hid hsumE
      clear hE hEok
      have hcp := (HM.out.far a (ca)).1
      have hRn : (a : Int) < (n : Int) := by omega
      have hCn : (q : Int) < (n : Int) := by omega
      clear hsumE
      go_wp2
      have hsumE : IntKind.i64.wrap (E + (m : Int)) = E + (m : Int) := HSE.out
      go_quiet (fail)
      all_goals go_wp2
      go_region
      all_goals go_wp2
      all_goals go_roundg (gk - 1)
      case measure => omega
      case rel =>
        exact ⟨a + 1, by go_num, by omega, Lib.hid ((((HMq.out.drewN _).set (ca) q (E + m)).congr fun x y _ _ => by rw [← HE.out]; exact colC_step I m (K := 2) (by first | exact HCOND.out | exact .inl rfl) x y)), Lib.hid (((HKq.out.drewN _).setCell (p := ⟨r a, q, none⟩) ⟨a, ca, rfl⟩ _))⟩
    · have ea : n = a := by omega
      subst ea
      clear hbj
      have hxj := HXj.out
      have z0 := blk_cell hxj 0
      have z1 := blk_cell hxj 1
      have z2 := blk_cell hxj 2
      have z3 := blk_cell hxj 3
      have z4 := blk_cell hxj 4
      have z5 := blk_cell hxj 5
      clear hxj HKr
      go_wp2_with fail
      refine (HCK.out wr _ (HIJ.out wr B g r cp c5 A8 A11 c8 c11 HMr.out hcc5)).mono ?_
      rintro e w4 ⟨rr, rfl, hrr, hb4⟩
      have HB4 := Lib.hid (keep_trans HBw.out hb4)
      have HXi4 := Lib.hid (heap_keep HXi.out hb4)
      have HXj4 := Lib.hid (heap_keep HXj.out hb4)
      have HM4 := Lib.hid (HMr.out.below hb4)
      have HWJ := Lib.hid hrr
      have hxi4 := HXi4.out
      clear y0 y1 y2 y3 y4 y5
      have y0 := blk_cell hxi4 0
      have y1 := blk_cell hxi4 1
      have y2 := blk_cell hxi4 2
      have y3 := blk_cell hxi4 3
      have y4 := blk_cell hxi4 4
      have y5 := blk_cell hxi4 5
      clear z0 z1 z2 z3 z4 z5 hrr hb4 hxi4 HXi HXj HMr HBw
      rcases Bool.eq_false_or_eq_true (rr != 0) with hr0 | hr0
      · clear HWJ
        go_wp2
        go_ret
        exact ⟨rfl, HB4.out⟩
      have hr0' : rr = 0 := by simpa using hr0
      subst hr0'
      clear hr0
      go_wp2_with fail
      refine (HBI.out w4 (HV.out.keep HB4.out) (HT.out.keep HB4.out)).mono ?_
      rintro e w5 ⟨x, Ax, cx, rfl, hox, hxc, hix, hb5⟩
      have hrg := cost_range HI.out hox.1 (by have := HK.out; omega)
      obtain ⟨C, hC⟩ : ∃ C, costOf I x = C := ⟨_, rfl⟩
      rw [hC] at hrg ⊢
      have HRG := Lib.hid hrg
      have HC := Lib.hid hC
      clear hrg
      have HOX := Lib.hid hox
      have HXj5 := Lib.hid (heap_keep HXj4.out hb5)
      have HB5 := Lib.hid (keep_trans HB4.out hb5)
      have HM5 := Lib.hid (HM4.out.below hb5)
      have hxj5 := HXj5.out
      have z0 := blk_cell hxj5 0
      have z1 := blk_cell hxj5 1
      have z2 := blk_cell hxj5 2
      have z3 := blk_cell hxj5 3
      have z4 := blk_cell hxj5 4
      have z5 := blk_cell hxj5 5
      clear hC hox hxc hix hb5 hxj5
      go_wp2_with fail
      refine (HBJ.out (HWJ.out.1 (by first | rfl | trivial)) w5 _ (HIJ.out w5 B g r cp c5 A8 A11 c8 c11 HM5.out hcc5) (HT.out.keep HB5.out)).mono ?_
      rintro e w6 ⟨y, Ay, cy, rfl, hoy, hyc, hiy, hb6⟩
      have hcy := HFIN.out x y HOX.out hoy
      rw [HC.out] at hcy
      rw [hcy]
      have HB6 := Lib.hid (keep_trans HB5.out hb6)
      clear hcy hoy hyc hiy hb6 z0 z1 z2 z3 z4 z5
      have hsum : IntKind.i64.wrap (C + (m : Int)) = C + (m : Int) := by have := HML.out; have := HRG.out; rw [IntKind.wrap_i64]; omega
      have heq : (C + (m : Int) == C + (m : Int)) = true := by simp
      go_wp2
      go_ret
      exact ⟨rfl, HB6.out⟩

set_option maxRecDepth 200000 in
set_option maxHeartbeats 2000000 in
theorem raised_3row (I : Inst) (hI : WF I) (hL : isLarge I = true) (hk : I.kind = 3) (v : Value) (w : World) (hv : InstAt w v I) (hT : TabW w) (an bn kk q m n : Nat) (hn : I.n = (n : Int)) (han : an < 256) (hbn : bn < 4294967296) (hm : bn % 2147483648 = m) (hkk : an % (2 * n) = kk) (hq : kk % n = q) (hmode : kk < n) :
    Calls Tryd.prog 7 #[v, .int .u8 (an : Nat), .int .u32 (bn : Nat)] w fun e w' => e = .returned (.bool true) ∧ Below w.heap.size w w' := by
  obtain ⟨n', hn', hn1, hn24, -, hlen, hcap, hws, hvs, hrow, hok, hdiag⟩ := hI.rows (by omega)
  obtain rfl : n = n' := by omega
  have hlim := large_lim hL
  have hqn : q < n := by rw [← hq]; exact Nat.mod_lt _ hn1
  have HS := Lib.hid (fun W => stands_any W)
  have HLG := Lib.hid (fun W hv => large_true I hI hL v W hv)
  have HCP := Lib.hid (fun W hv => copy_mat I hI hk (by decide) hn v W hv)
  have HBI := Lib.hid (fun W hv hT => topbest_any I hI hlim v W hv hT)
  have hJL : Lim (setC I n (rowC I 3 q m n)) := hlim
  have HBJ := Lib.hid (fun (hJ : WF (setC I n (rowC I 3 q m n))) W v hv hT => topbest_any (setC I n (rowC I 3 q m n)) hJ hJL v W hv hT)
  have HCK := Lib.hid (fun W v hv => check_any (setC I n (rowC I 3 q m n)) v W hv)
  have hIJ := fun W B g r cp c A8 A11 c8 c11 (hM : Mat W B g n r cp (rowC I 3 q m n)) (hc : n ≤ c) => instAt_mat (A8 := A8) (A11 := A11) (c8 := c8) (c11 := c11) hI (by omega) hn hn24 hM hc
  rw [hk, hn, hcap] at hIJ
  have HIJ := Lib.hid hIJ
  have HFIN := Lib.hid (fun x y (hx : Opt I x) (hy : Opt (setC I n (rowC I 3 q m n)) y) => row3_fin hk hn hqn hx hy)
  have HI := Lib.hid hI
  have HK := Lib.hid hk
  have HOK := Lib.hid hok
  have HV := Lib.hid hv
  have HT := Lib.hid hT
  have hb : ∀ o : Obj, Below w.heap.size w (w.alloc o) := fun o => (Below.refl _ _).alloc (Nat.le_refl _) o
  have HB := Lib.hid hb
  obtain ⟨A1, c1, A2, c2, A3, c3, rfl, hc3, h10⟩ := hv.mform hI hk (by decide) hn
  have hm1 : (bn : Int) % 2147483648 = (m : Int) := by rw [← hm]; simp
  have hm2 : (bn : Int).tmod 2147483648 = (m : Int) := by rw [Int.tmod_eq_emod_of_nonneg (by omega)]; exact hm1
  have hk1 : (an : Int) % (2 * (n : Int)) = (kk : Int) := by rw [← hkk]; simp
  have hk2 : (an : Int).tmod (2 * (n : Int)) = (kk : Int) := by rw [Int.tmod_eq_emod_of_nonneg (by omega)]; exact hk1
  have hq1 : (kk : Int) % (n : Int) = (q : Int) := by rw [← hq]; simp
  have hq2 : (kk : Int).tmod (n : Int) = (q : Int) := by rw [Int.tmod_eq_emod_of_nonneg (by omega)]; exact hq1
  have hml : (m : Int) < 2147483648 := by omega
  have hkl : (kk : Int) < 2 * (n : Int) := by have := Nat.mod_lt an (show 0 < 2 * n by omega); omega
  have han2 : (an : Int) < 256 := by omega
  have hbn2 : (bn : Int) < 4294967296 := by omega
  have hmd : ¬ (n : Int) ≤ (kk : Int) := by omega
  have hqi : (q : Int) < (n : Int) := by omega
  clear hI hL hk hv hT hlim hJL hIJ hn hn' hrow hlen hws hvs hok hdiag hb h10 hcap hm hkk hq hmode han hbn
  go_enter Tryd.func7, Tryd.ntmps7
  go_wp2_with fail
  refine (HS.out _).mono ?_
  rintro e w1 ⟨rfl, hb1⟩
  have hB1 := keep_box hb1
  obtain ⟨hc1, hf1⟩ := bcell hb1
  have hbx1 := heap_keep (heap_new w (.cells #[.int .i64 3, .int .i64 (n : Int), .int .i64 0, .slice A1 0 c1, .slice A2 0 c2, .slice A3 n c3] 25 (0, 0)) _ rfl) hb1
  have HX1 := Lib.hid hbx1
  have HB1 := Lib.hid hB1
  clear hb1 hB1 hbx1
  go_wp2_with fail
  refine (HLG.out _ (HV.out.keep HB1.out)).mono ?_
  rintro e w2 ⟨rfl, hb2⟩
  have hbx2 := heap_keep HX1.out hb2
  have HX2 := Lib.hid hbx2
  have HB2 := Lib.hid (keep_trans HB1.out hb2)
  have y0 := blk_cell hbx2 0
  have y1 := blk_cell hbx2 1
  have y2 := blk_cell hbx2 2
  have y3 := blk_cell hbx2 3
  have y4 := blk_cell hbx2 4
  have y5 := blk_cell hbx2 5
  clear hc1 hf1 hb2 hbx2 HX1 HB1
  go_wp2_with fail
  refine (HCP.out _ (HV.out.keep HB2.out)).mono ?_
  rintro e w3 ⟨A8, c8, A11, c11, g, c5, r, cp, B, rfl, hcc5, hBB, hM, hb3⟩
  have hws := HB2.out.size
  have hxl := heap_lt HX2.out
  have hbx3 := heap_keep HX2.out hb3
  have HX3 := Lib.hid hbx3
  have HB3 := Lib.hid (keep_trans HB2.out hb3)
  have HM := Lib.hid hM
  clear y0 y1 y2 y3 y4 y5
  have y0 := blk_cell hbx3 0
  have y1 := blk_cell hbx3 1
  have hxl3 := heap_lt hbx3
  clear hM hb3 HX2 HB2 hbx3
  go_wp2
  have HML := Lib.hid hml
  clear y0 y1 hxl3 hm1 hm2 hk1 hk2 hbn2 han2 hml hkl
  go_loopg [10] n (fun gg v10 wr => ∃ a : Nat, v10 = .int .i64 a ∧ a + gg = n ∧ Hid (Mat wr B g n r cp (rowC I 3 q m a)) ∧ Hid (Keep (RowSet n r) (w3.alloc (.cells #[.int .i64 3, .int .i64 (n : Int), .int .i64 0, .slice A8 0 c8, .slice A11 0 c11, .slice (some ⟨g, 0, none⟩) n c5] 25 (0, 0))) wr))
  case atStart => exact ⟨0, rfl, by omega, Lib.hid ((HM.out.below ((Below.refl _ _).alloc (Nat.le_refl _) _)).congr fun a b _ _ => (rowC_zero I 3 q m a b).symm), Lib.hid (Keep.refl _ _)⟩
  case round =>
    obtain ⟨a, rfl, ha, HMr, HKr⟩ := hrel
    have hx1 : ¬ RowSet n r w.heap.size := fun ⟨j, hj, e⟩ => by have := (HM.out.far j hj).2.1; omega
    have hx3 : ¬ RowSet n r w3.heap.size := fun ⟨j, hj, e⟩ => by have := (HM.out.arr j hj).lt; omega
    have hbi := HKr.out.heap (heap_old' HX3.out _) hx1
    have hbj := HKr.out.heap (heap_new w3 _ _ rfl) hx3
    have y0 := blk_cell hbi 0
    have y1 := blk_cell hbi 1
    have y2 := blk_cell hbi 2
    have y3 := blk_cell hbi 3
    have y4 := blk_cell hbi 4
    have y5 := blk_cell hbi 5
    have hBw : Below w.heap.size w wr := (HB3.out.trans ((HKr.out.below (B := w.heap.size) (by have := HB3.out.size; simp; omega) (fun k hk ⟨j, hj, e⟩ => by have := (HM.out.far j hj).2.1; omega)).trans (Below.refl _ _) |> fun h => ((Below.refl _ _).alloc (by have := HB3.out.size; exact this) _).trans h))
    have HBw := Lib.hid hBw
    have HXi := Lib.hid hbi
    have HXj := Lib.hid hbj
    clear hBw hx1 hx3 hbi
    by_cases ca : a < n
    · have hai : (a : Int) < (n : Int) := by omega
      have z5 := blk_cell hbj 5
      clear hbj
      have HMq := HMr
      have HKq := HKr
      by_cases cq : q = a
      · have hne : ((q : Int) != (a : Int)) = false := by simp [cq]
        have HCOND := Lib.hid (show ¬ ((3 : Int) = 2 ∨ q ≠ a) from by omega)
        clear cq
        have hmd3 : ¬ (n : Int) ≤ (kk : Int) := by omega
        clear hmd
        go_wp2
        all_goals go_roundg (gk - 1)
        case measure => omega
        case rel => exact ⟨a + 1, by go_num, by omega, Lib.hid ((HMq.out).congr fun x y _ _ => rowC_skip I m (K := 3) (by first | exact HCOND.out | (intro h; omega)) x y), Lib.hid (HKq.out)⟩
      · have hne : ((q : Int) != (a : Int)) = true := by simp; omega
        have HCOND := Lib.hid (show (3 : Int) = 2 ∨ q ≠ a from .inr cq)
        clear cq
        have r1 := HMq.out.row.cell (hqn)
        have r2 := (HMq.out.arr q (hqn)).cell (show a < n from ca)
        have r3 := (HMq.out.arr q (hqn)).free a
        rw [rowC_at] at r2
        obtain ⟨E, hE⟩ : ∃ E, elt I q a = E := ⟨_, rfl⟩
        rw [hE] at r2
        have hEok := HOK.out q a (hqn) (ca)
        rw [hE] at hEok
        unfold numOk at hEok
        have hsumE : IntKind.i64.wrap (E + (m : Int)) = E + (m : Int) := by have := HML.out; rw [IntKind.wrap_i64]; omega
        have HE := Lib.hid hE
        have HSE := Lib.hid hsumE
        clear hE hEok
        have hcp := (HM.out.far q (hqn)).1
        have hRn : (q : Int) < (n : Int) := by omega
        have hCn : (a : Int) < (n : Int) := by omega
        clear hsumE
        have hmd3 : ¬ (n : Int) ≤ (kk : Int) := by omega
        clear hmd
        go_wp2
        have hsumE : IntKind.i64.wrap (E + (m : Int)) = E + (m : Int) := HSE.out
        go_region
        all_goals go_wp2
        all_goals go_roundg (gk - 1)
        case measure => omega
        case rel =>
          exact ⟨a + 1, by go_num, by omega, Lib.hid ((((HMq.out).set (hqn) a (E + m)).congr fun x y _ _ => by rw [← HE.out]; exact rowC_step I m (K := 3) (by first | exact HCOND.out | exact .inl rfl) x y).drew), Lib.hid (((HKq.out).setCell (p := ⟨r q, a, none⟩) ⟨q, hqn, rfl⟩ _).drew)⟩
    · have ea : n = a := by omega
      subst ea
      clear hbj
      have hxj := HXj.out
      have z0 := blk_cell hxj 0
      have z1 := blk_cell hxj 1
      have z2 := blk_cell hxj 2
      have z3 := blk_cell hxj 3
      have z4 := blk_cell hxj 4
      have z5 := blk_cell hxj 5
      clear hxj HKr
      go_wp2_with fail
      refine (HCK.out wr _ (HIJ.out wr B g r cp c5 A8 A11 c8 c11 HMr.out hcc5)).mono ?_
      rintro e w4 ⟨rr, rfl, hrr, hb4⟩
      have HB4 := Lib.hid (keep_trans HBw.out hb4)
      have HXi4 := Lib.hid (heap_keep HXi.out hb4)
      have HXj4 := Lib.hid (heap_keep HXj.out hb4)
      have HM4 := Lib.hid (HMr.out.below hb4)
      have HWJ := Lib.hid hrr
      have hxi4 := HXi4.out
      clear y0 y1 y2 y3 y4 y5
      have y0 := blk_cell hxi4 0
      have y1 := blk_cell hxi4 1
      have y2 := blk_cell hxi4 2
      have y3 := blk_cell hxi4 3
      have y4 := blk_cell hxi4 4
      have y5 := blk_cell hxi4 5
      clear z0 z1 z2 z3 z4 z5 hrr hb4 hxi4 HXi HXj HMr HBw
      rcases Bool.eq_false_or_eq_true (rr != 0) with hr0 | hr0
      · clear HWJ
        go_wp2
        go_ret
        exact ⟨rfl, HB4.out⟩
      have hr0' : rr = 0 := by simpa using hr0
      subst hr0'
      clear hr0
      by_cases cn : n = 1
      · have hcn : ((n : Int) == 1) = true := by simp [cn]
        have HCN := Lib.hid cn
        clear cn
        go_wp2_with fail
        refine (HBI.out w4 (HV.out.keep HB4.out) (HT.out.keep HB4.out)).mono ?_
        rintro e w5 ⟨x, Ax, cx, rfl, hox, hxc, hix, hb5⟩
        have hrg := cost_range HI.out hox.1 (by have := HK.out; omega)
        obtain ⟨C, hC⟩ : ∃ C, costOf I x = C := ⟨_, rfl⟩
        rw [hC] at hrg ⊢
        have HRG := Lib.hid hrg
        have HC := Lib.hid hC
        clear hrg
        have HOX := Lib.hid hox
        have HXj5 := Lib.hid (heap_keep HXj4.out hb5)
        have HB5 := Lib.hid (keep_trans HB4.out hb5)
        have HM5 := Lib.hid (HM4.out.below hb5)
        have hxj5 := HXj5.out
        have z0 := blk_cell hxj5 0
        have z1 := blk_cell hxj5 1
        have z2 := blk_cell hxj5 2
        have z3 := blk_cell hxj5 3
        have z4 := blk_cell hxj5 4
        have z5 := blk_cell hxj5 5
        clear hC hox hxc hix hb5 hxj5
        go_wp2_with fail
        refine (HBJ.out (HWJ.out.1 (by first | rfl | trivial)) w5 _ (HIJ.out w5 B g r cp c5 A8 A11 c8 c11 HM5.out hcc5) (HT.out.keep HB5.out)).mono ?_
        rintro e w6 ⟨y, Ay, cy, rfl, hoy, hyc, hiy, hb6⟩
        have hcy := HFIN.out x y HOX.out hoy
        rw [HC.out, if_pos HCN.out, Int.add_zero] at hcy
        rw [hcy]
        have HB6 := Lib.hid (keep_trans HB5.out hb6)
        clear hcy hoy hyc hiy hb6 z0 z1 z2 z3 z4 z5
        have heq : (C == wrap64 C) = true := by have := HRG.out; simp [wrap64]; omega
        have heq1 : (C == C) = true := by simp
        go_wp2
        go_ret
        exact ⟨rfl, HB6.out⟩

      · have hcn : ((n : Int) == 1) = false := by simp; omega
        have HCN := Lib.hid cn
        clear cn
        go_wp2_with fail
        refine (HBI.out w4 (HV.out.keep HB4.out) (HT.out.keep HB4.out)).mono ?_
        rintro e w5 ⟨x, Ax, cx, rfl, hox, hxc, hix, hb5⟩
        have hrg := cost_range HI.out hox.1 (by have := HK.out; omega)
        obtain ⟨C, hC⟩ : ∃ C, costOf I x = C := ⟨_, rfl⟩
        rw [hC] at hrg ⊢
        have HRG := Lib.hid hrg
        have HC := Lib.hid hC
        clear hrg
        have HOX := Lib.hid hox
        have HXj5 := Lib.hid (heap_keep HXj4.out hb5)
        have HB5 := Lib.hid (keep_trans HB4.out hb5)
        have HM5 := Lib.hid (HM4.out.below hb5)
        have hxj5 := HXj5.out
        have z0 := blk_cell hxj5 0
        have z1 := blk_cell hxj5 1
        have z2 := blk_cell hxj5 2
        have z3 := blk_cell hxj5 3
        have z4 := blk_cell hxj5 4
        have z5 := blk_cell hxj5 5
        clear hC hox hxc hix hb5 hxj5
        go_wp2_with fail
        refine (HBJ.out (HWJ.out.1 (by first | rfl | trivial)) w5 _ (HIJ.out w5 B g r cp c5 A8 A11 c8 c11 HM5.out hcc5) (HT.out.keep HB5.out)).mono ?_
        rintro e w6 ⟨y, Ay, cy, rfl, hoy, hyc, hiy, hb6⟩
        have hcy := HFIN.out x y HOX.out hoy
        rw [HC.out, if_neg HCN.out] at hcy
        rw [hcy]
        have HB6 := Lib.hid (keep_trans HB5.out hb6)
        clear hcy hoy hyc hiy hb6 z0 z1 z2 z3 z4 z5
        have hsum : IntKind.i64.wrap (C + (m : Int)) = C + (m : Int) := by have := HML.out; have := HRG.out; rw [IntKind.wrap_i64]; omega
        have heq : (C + (m : Int) == C + (m : Int)) = true := by simp
        go_wp2
        go_ret
        exact ⟨rfl, HB6.out⟩


set_option maxRecDepth 200000 in
set_option maxHeartbeats 2000000 in
theorem raised_3col (I : Inst) (hI : WF I) (hL : isLarge I = true) (hk : I.kind = 3) (v : Value) (w : World) (hv : InstAt w v I) (hT : TabW w) (an bn kk q m n : Nat) (hn : I.n = (n : Int)) (han : an < 256) (hbn : bn < 4294967296) (hm : bn % 2147483648 = m) (hkk : an % (2 * n) = kk) (hq : kk % n = q) (hmode : n ≤ kk) :
    Calls Tryd.prog 7 #[v, .int .u8 (an : Nat), .int .u32 (bn : Nat)] w fun e w' => e = .returned (.bool true) ∧ Below w.heap.size w w' := by
  obtain ⟨n', hn', hn1, hn24, -, hlen, hcap, hws, hvs, hrow, hok, hdiag⟩ := hI.rows (by omega)
  obtain rfl : n = n' := by omega
  have hlim := large_lim hL
  have hqn : q < n := by rw [← hq]; exact Nat.mod_lt _ hn1
  have HS := Lib.hid (fun W => stands_any W)
  have HLG := Lib.hid (fun W hv => large_true I hI hL v W hv)
  have HCP := Lib.hid (fun W hv => copy_mat I hI hk (by decide) hn v W hv)
  have HBI := Lib.hid (fun W hv hT => topbest_any I hI hlim v W hv hT)
  have hJL : Lim (setC I n (colC I 3 q m n)) := hlim
  have HBJ := Lib.hid (fun (hJ : WF (setC I n (colC I 3 q m n))) W v hv hT => topbest_any (setC I n (colC I 3 q m n)) hJ hJL v W hv hT)
  have HCK := Lib.hid (fun W v hv => check_any (setC I n (colC I 3 q m n)) v W hv)
  have hIJ := fun W B g r cp c A8 A11 c8 c11 (hM : Mat W B g n r cp (colC I 3 q m n)) (hc : n ≤ c) => instAt_mat (A8 := A8) (A11 := A11) (c8 := c8) (c11 := c11) hI (by omega) hn hn24 hM hc
  rw [hk, hn, hcap] at hIJ
  have HIJ := Lib.hid hIJ
  have HFIN := Lib.hid (fun x y (hx : Opt I x) (hy : Opt (setC I n (colC I 3 q m n)) y) => col3_fin hk hn hqn hx hy)
  have HI := Lib.hid hI
  have HK := Lib.hid hk
  have HOK := Lib.hid hok
  have HV := Lib.hid hv
  have HT := Lib.hid hT
  have hb : ∀ o : Obj, Below w.heap.size w (w.alloc o) := fun o => (Below.refl _ _).alloc (Nat.le_refl _) o
  have HB := Lib.hid hb
  obtain ⟨A1, c1, A2, c2, A3, c3, rfl, hc3, h10⟩ := hv.mform hI hk (by decide) hn
  have hm1 : (bn : Int) % 2147483648 = (m : Int) := by rw [← hm]; simp
  have hm2 : (bn : Int).tmod 2147483648 = (m : Int) := by rw [Int.tmod_eq_emod_of_nonneg (by omega)]; exact hm1
  have hk1 : (an : Int) % (2 * (n : Int)) = (kk : Int) := by rw [← hkk]; simp
  have hk2 : (an : Int).tmod (2 * (n : Int)) = (kk : Int) := by rw [Int.tmod_eq_emod_of_nonneg (by omega)]; exact hk1
  have hq1 : (kk : Int) % (n : Int) = (q : Int) := by rw [← hq]; simp
  have hq2 : (kk : Int).tmod (n : Int) = (q : Int) := by rw [Int.tmod_eq_emod_of_nonneg (by omega)]; exact hq1
  have hml : (m : Int) < 2147483648 := by omega
  have hkl : (kk : Int) < 2 * (n : Int) := by have := Nat.mod_lt an (show 0 < 2 * n by omega); omega
  have han2 : (an : Int) < 256 := by omega
  have hbn2 : (bn : Int) < 4294967296 := by omega
  have hmd : (n : Int) ≤ (kk : Int) := by omega
  have hqi : (q : Int) < (n : Int) := by omega
  clear hI hL hk hv hT hlim hJL hIJ hn hn' hrow hlen hws hvs hok hdiag hb h10 hcap hm hkk hq hmode han hbn
  go_enter Tryd.func7, Tryd.ntmps7
  go_wp2_with fail
  refine (HS.out _).mono ?_
  rintro e w1 ⟨rfl, hb1⟩
  have hB1 := keep_box hb1
  obtain ⟨hc1, hf1⟩ := bcell hb1
  have hbx1 := heap_keep (heap_new w (.cells #[.int .i64 3, .int .i64 (n : Int), .int .i64 0, .slice A1 0 c1, .slice A2 0 c2, .slice A3 n c3] 25 (0, 0)) _ rfl) hb1
  have HX1 := Lib.hid hbx1
  have HB1 := Lib.hid hB1
  clear hb1 hB1 hbx1
  go_wp2_with fail
  refine (HLG.out _ (HV.out.keep HB1.out)).mono ?_
  rintro e w2 ⟨rfl, hb2⟩
  have hbx2 := heap_keep HX1.out hb2
  have HX2 := Lib.hid hbx2
  have HB2 := Lib.hid (keep_trans HB1.out hb2)
  have y0 := blk_cell hbx2 0
  have y1 := blk_cell hbx2 1
  have y2 := blk_cell hbx2 2
  have y3 := blk_cell hbx2 3
  have y4 := blk_cell hbx2 4
  have y5 := blk_cell hbx2 5
  clear hc1 hf1 hb2 hbx2 HX1 HB1
  go_wp2_with fail
  refine (HCP.out _ (HV.out.keep HB2.out)).mono ?_
  rintro e w3 ⟨A8, c8, A11, c11, g, c5, r, cp, B, rfl, hcc5, hBB, hM, hb3⟩
  have hws := HB2.out.size
  have hxl := heap_lt HX2.out
  have hbx3 := heap_keep HX2.out hb3
  have HX3 := Lib.hid hbx3
  have HB3 := Lib.hid (keep_trans HB2.out hb3)
  have HM := Lib.hid hM
  clear y0 y1 y2 y3 y4 y5
  have y0 := blk_cell hbx3 0
  have y1 := blk_cell hbx3 1
  have hxl3 := heap_lt hbx3
  clear hM hb3 HX2 HB2 hbx3
  go_wp2
  have HML := Lib.hid hml
  clear y0 y1 hxl3 hm1 hm2 hk1 hk2 hbn2 han2 hml hkl
  go_loopg [10] n (fun gg v10 wr => ∃ a : Nat, v10 = .int .i64 a ∧ a + gg = n ∧ Hid (Mat wr B g n r cp (colC I 3 q m a)) ∧ Hid (Keep (RowSet n r) (w3.alloc (.cells #[.int .i64 3, .int .i64 (n : Int), .int .i64 0, .slice A8 0 c8, .slice A11 0 c11, .slice (some ⟨g, 0, none⟩) n c5] 25 (0, 0))) wr))
  case atStart => exact ⟨0, rfl, by omega, Lib.hid ((HM.out.below ((Below.refl _ _).alloc (Nat.le_refl _) _)).congr fun a b _ _ => (colC_zero I 3 q m a b).symm), Lib.hid (Keep.refl _ _)⟩
  case round =>
    obtain ⟨a, rfl, ha, HMr, HKr⟩ := hrel
    have hx1 : ¬ RowSet n r w.heap.size := fun ⟨j, hj, e⟩ => by have := (HM.out.far j hj).2.1; omega
    have hx3 : ¬ RowSet n r w3.heap.size := fun ⟨j, hj, e⟩ => by have := (HM.out.arr j hj).lt; omega
    have hbi := HKr.out.heap (heap_old' HX3.out _) hx1
    have hbj := HKr.out.heap (heap_new w3 _ _ rfl) hx3
    have y0 := blk_cell hbi 0
    have y1 := blk_cell hbi 1
    have y2 := blk_cell hbi 2
    have y3 := blk_cell hbi 3
    have y4 := blk_cell hbi 4
    have y5 := blk_cell hbi 5
    have hBw : Below w.heap.size w wr := (HB3.out.trans ((HKr.out.below (B := w.heap.size) (by have := HB3.out.size; simp; omega) (fun k hk ⟨j, hj, e⟩ => by have := (HM.out.far j hj).2.1; omega)).trans (Below.refl _ _) |> fun h => ((Below.refl _ _).alloc (by have := HB3.out.size; exact this) _).trans h))
    have HBw := Lib.hid hBw
    have HXi := Lib.hid hbi
    have HXj := Lib.hid hbj
    clear hBw hx1 hx3 hbi
    by_cases ca : a < n
    · have hai : (a : Int) < (n : Int) := by omega
      have z5 := blk_cell hbj 5
      clear hbj
      have HMq := HMr
      have HKq := HKr
      by_cases cq : a = q
      · have hne : ((a : Int) != (q : Int)) = false := by simp [cq]
        have HCOND := Lib.hid (show ¬ ((3 : Int) = 2 ∨ a ≠ q) from by omega)
        clear cq
        go_wp2
        go_quiet (fail)
        all_goals go_wp2
        all_goals go_roundg (gk - 1)
        case measure => omega
        case rel => exact ⟨a + 1, by go_num, by omega, Lib.hid ((HMq.out.drewN _).congr fun x y _ _ => colC_skip I m (K := 3) (by first | exact HCOND.out | (intro h; omega)) x y), Lib.hid (HKq.out.drewN _)⟩
      · have hne : ((a : Int) != (q : Int)) = true := by simp; omega
        have HCOND := Lib.hid (show (3 : Int) = 2 ∨ a ≠ q from .inr cq)
        clear cq
        have r1 := HMq.out.row.cell (ca)
        have r2 := (HMq.out.arr a (ca)).cell (show q < n from hqn)
        have r3 := (HMq.out.arr a (ca)).free q
        rw [colC_at] at r2
        obtain ⟨E, hE⟩ : ∃ E, elt I a q = E := ⟨_, rfl⟩
        rw [hE] at r2
        have hEok := HOK.out a q (ca) (hqn)
        rw [hE] at hEok
        unfold numOk at hEok
        have hsumE : IntKind.i64.wrap (E + (m : Int)) = E + (m : Int) := by have := HML.out; rw [IntKind.wrap_i64]; omega
        have HE := Lib.hid hE
        have HSE := Lib.hid hsumE
        clear hE hEok
        have hcp := (HM.out.far a (ca)).1
        have hRn : (a : Int) < (n : Int) := by omega
        have hCn : (q : Int) < (n : Int) := by omega
        clear hsumE
        go_wp2
        have hsumE : IntKind.i64.wrap (E + (m : Int)) = E + (m : Int) := HSE.out
        go_quiet (fail)
        all_goals go_wp2
        go_region
        all_goals go_wp2
        all_goals go_roundg (gk - 1)
        case measure => omega
        case rel =>
          exact ⟨a + 1, by go_num, by omega, Lib.hid ((((HMq.out.drewN _).set (ca) q (E + m)).congr fun x y _ _ => by rw [← HE.out]; exact colC_step I m (K := 3) (by first | exact HCOND.out | exact .inl rfl) x y)), Lib.hid (((HKq.out.drewN _).setCell (p := ⟨r a, q, none⟩) ⟨a, ca, rfl⟩ _))⟩
    · have ea : n = a := by omega
      subst ea
      clear hbj
      have hxj := HXj.out
      have z0 := blk_cell hxj 0
      have z1 := blk_cell hxj 1
      have z2 := blk_cell hxj 2
      have z3 := blk_cell hxj 3
      have z4 := blk_cell hxj 4
      have z5 := blk_cell hxj 5
      clear hxj HKr
      go_wp2_with fail
      refine (HCK.out wr _ (HIJ.out wr B g r cp c5 A8 A11 c8 c11 HMr.out hcc5)).mono ?_
      rintro e w4 ⟨rr, rfl, hrr, hb4⟩
      have HB4 := Lib.hid (keep_trans HBw.out hb4)
      have HXi4 := Lib.hid (heap_keep HXi.out hb4)
      have HXj4 := Lib.hid (heap_keep HXj.out hb4)
      have HM4 := Lib.hid (HMr.out.below hb4)
      have HWJ := Lib.hid hrr
      have hxi4 := HXi4.out
      clear y0 y1 y2 y3 y4 y5
      have y0 := blk_cell hxi4 0
      have y1 := blk_cell hxi4 1
      have y2 := blk_cell hxi4 2
      have y3 := blk_cell hxi4 3
      have y4 := blk_cell hxi4 4
      have y5 := blk_cell hxi4 5
      clear z0 z1 z2 z3 z4 z5 hrr hb4 hxi4 HXi HXj HMr HBw
      rcases Bool.eq_false_or_eq_true (rr != 0) with hr0 | hr0
      · clear HWJ
        go_wp2
        go_ret
        exact ⟨rfl, HB4.out⟩
      have hr0' : rr = 0 := by simpa using hr0
      subst hr0'
      clear hr0
      by_cases cn : n = 1
      · have hcn : ((n : Int) == 1) = true := by simp [cn]
        have HCN := Lib.hid cn
        clear cn
        go_wp2_with fail
        refine (HBI.out w4 (HV.out.keep HB4.out) (HT.out.keep HB4.out)).mono ?_
        rintro e w5 ⟨x, Ax, cx, rfl, hox, hxc, hix, hb5⟩
        have hrg := cost_range HI.out hox.1 (by have := HK.out; omega)
        obtain ⟨C, hC⟩ : ∃ C, costOf I x = C := ⟨_, rfl⟩
        rw [hC] at hrg ⊢
        have HRG := Lib.hid hrg
        have HC := Lib.hid hC
        clear hrg
        have HOX := Lib.hid hox
        have HXj5 := Lib.hid (heap_keep HXj4.out hb5)
        have HB5 := Lib.hid (keep_trans HB4.out hb5)
        have HM5 := Lib.hid (HM4.out.below hb5)
        have hxj5 := HXj5.out
        have z0 := blk_cell hxj5 0
        have z1 := blk_cell hxj5 1
        have z2 := blk_cell hxj5 2
        have z3 := blk_cell hxj5 3
        have z4 := blk_cell hxj5 4
        have z5 := blk_cell hxj5 5
        clear hC hox hxc hix hb5 hxj5
        go_wp2_with fail
        refine (HBJ.out (HWJ.out.1 (by first | rfl | trivial)) w5 _ (HIJ.out w5 B g r cp c5 A8 A11 c8 c11 HM5.out hcc5) (HT.out.keep HB5.out)).mono ?_
        rintro e w6 ⟨y, Ay, cy, rfl, hoy, hyc, hiy, hb6⟩
        have hcy := HFIN.out x y HOX.out hoy
        rw [HC.out, if_pos HCN.out, Int.add_zero] at hcy
        rw [hcy]
        have HB6 := Lib.hid (keep_trans HB5.out hb6)
        clear hcy hoy hyc hiy hb6 z0 z1 z2 z3 z4 z5
        have heq : (C == wrap64 C) = true := by have := HRG.out; simp [wrap64]; omega
        have heq1 : (C == C) = true := by simp
        go_wp2
        go_ret
        exact ⟨rfl, HB6.out⟩

      · have hcn : ((n : Int) == 1) = false := by simp; omega
        have HCN := Lib.hid cn
        clear cn
        go_wp2_with fail
        refine (HBI.out w4 (HV.out.keep HB4.out) (HT.out.keep HB4.out)).mono ?_
        rintro e w5 ⟨x, Ax, cx, rfl, hox, hxc, hix, hb5⟩
        have hrg := cost_range HI.out hox.1 (by have := HK.out; omega)
        obtain ⟨C, hC⟩ : ∃ C, costOf I x = C := ⟨_, rfl⟩
        rw [hC] at hrg ⊢
        have HRG := Lib.hid hrg
        have HC := Lib.hid hC
        clear hrg
        have HOX := Lib.hid hox
        have HXj5 := Lib.hid (heap_keep HXj4.out hb5)
        have HB5 := Lib.hid (keep_trans HB4.out hb5)
        have HM5 := Lib.hid (HM4.out.below hb5)
        have hxj5 := HXj5.out
        have z0 := blk_cell hxj5 0
        have z1 := blk_cell hxj5 1
        have z2 := blk_cell hxj5 2
        have z3 := blk_cell hxj5 3
        have z4 := blk_cell hxj5 4
        have z5 := blk_cell hxj5 5
        clear hC hox hxc hix hb5 hxj5
        go_wp2_with fail
        refine (HBJ.out (HWJ.out.1 (by first | rfl | trivial)) w5 _ (HIJ.out w5 B g r cp c5 A8 A11 c8 c11 HM5.out hcc5) (HT.out.keep HB5.out)).mono ?_
        rintro e w6 ⟨y, Ay, cy, rfl, hoy, hyc, hiy, hb6⟩
        have hcy := HFIN.out x y HOX.out hoy
        rw [HC.out, if_neg HCN.out] at hcy
        rw [hcy]
        have HB6 := Lib.hid (keep_trans HB5.out hb6)
        clear hcy hoy hyc hiy hb6 z0 z1 z2 z3 z4 z5
        have hsum : IntKind.i64.wrap (C + (m : Int)) = C + (m : Int) := by have := HML.out; have := HRG.out; rw [IntKind.wrap_i64]; omega
        have heq : (C + (m : Int) == C + (m : Int)) = true := by simp
        go_wp2
        go_ret
        exact ⟨rfl, HB6.out⟩

end Go.Proofs.YtmfgffmlnfimcaaDoor
