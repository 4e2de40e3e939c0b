/- The walk of WholeNumbered at knapsacks; WholeNumbered whole. -/
import Derived.Test.YtmfgffmlnfimcaaDoorT5
namespace Go.Proofs.YtmfgffmlnfimcaaDoor
open Go Go.RowKit Go.Shelf Go.Sort Go.Deep

/-- A knapsack, its items numbered otherwise. -/
def numK (I : Inst) (n : Nat) (p : Nat → Nat) : Inst := { I with ws := (List.range n).map fun j => gw I (p j), vs := (List.range n).map fun j => gv I (p j) }
theorem getI {n : Nat} (f : Nat → Int) {j : Nat} (hj : j < n) : ((List.range n).map f).getD j 0 = f j := by simp [List.getD_eq_getElem?_getD, hj]
theorem numK_wf {I : Inst} (hI : WF I) (hk : I.kind = 1) {n : Nat} (hn : I.n = (n : Int)) {p : Nat → Nat} (hp : Inj n p) : WF (numK I n p) := by
  obtain ⟨n', hn', -, -, -, -, hc, hcap, hok⟩ := hI.knap hk
  obtain rfl : n = n' := by omega
  refine ⟨hI.1, .inl ⟨hk, ?_, ?_, ?_⟩, fun _ => ⟨hcap, fun k hk2 => ?_⟩, fun e => absurd hk e⟩
  · show (((List.range n).map fun j => gw I (p j)).length : Int) = I.n; rw [List.length_map, List.length_range, hn]
  · show (((List.range n).map fun j => gv I (p j)).length : Int) = I.n; rw [List.length_map, List.length_range, hn]
  · show I.cost.length = 0; rw [hc]; rfl
  · have hkn : k < n := by have h8 : k < I.n.toNat := hk2; rw [hn, Int.toNat_natCast] at h8; exact h8
    show numOk (((List.range n).map fun j => gw I (p j)).getD k 0) ∧ numOk (((List.range n).map fun j => gv I (p j)).getD k 0)
    rw [getI _ hkn, getI _ hkn]
    exact hok _ (hp.1 k hkn)
theorem num1_eq {I : Inst} (hk : I.kind = 1) {n : Nat} (hn : I.n = (n : Int)) {p : Nat → Nat} (hp : Inj n p) {x y : List Int} (hx : Opt I x) (hy : Opt (numK I n p) y) : costOf (numK I n p) y = costOf I x :=
  (hy.best1 (I := numK I n p) hk hn).eq (((hx.best1 hk hn).perm hp).congr (fun _ hj => (getI (fun j => gw I (p j)) hj).symm) fun _ hj => (getI (fun j => gv I (p j)) hj).symm)
theorem num1_fin {I : Inst} (hk : I.kind = 1) {n : Nat} (hn : I.n = (n : Int)) {p : Nat → Nat} (hp : Inj n p) {x y : List Int} (hx : Opt I x) (hy : Opt (numK I n p) y) {zf : Nat → Int} (hz : ∀ j, j < n → zf (p j) = y.getD j 0) :
    Feas I ((List.range n).map zf) ∧ costOf I ((List.range n).map zf) = costOf I x := by
  obtain ⟨hl, h01, hw⟩ := hy.1.1 hk
  rw [show (numK I n p).n = I.n from rfl, hn, Int.toNat_natCast] at h01 hw
  have h01z : ∀ j, j < n → ((List.range n).map zf).getD j 0 = 0 ∨ ((List.range n).map zf).getD j 0 = 1 := fun j hj => by
    obtain ⟨i, hi, e⟩ := hp.onto j hj
    rw [getI _ hj, ← e, hz i hi]
    exact h01 i hi
  have ez : ∀ j, j < n → (((List.range n).map zf).getD j 0 = 1 ↔ (decide (((List.range n).map zf).getD j 0 = 1)) = true) := fun j _ => by simp
  have ey : ∀ j, j < n → (y.getD j 0 = 1 ↔ (decide (y.getD j 0 = 1)) = true) := fun j _ => by simp
  have ezc : ∀ j, j < n → (((List.range n).map zf).getD j 0 = 0 ↔ (decide (((List.range n).map zf).getD j 0 = 1)) = false) := fun j hj => by rcases h01z j hj with e | e <;> rw [e] <;> simp
  have eyc : ∀ j, j < n → (y.getD j 0 = 0 ↔ (decide (y.getD j 0 = 1)) = false) := fun j hj => by rcases h01 j hj with e | e <;> rw [e] <;> simp
  have et : ∀ j, j < n → decide (((List.range n).map zf).getD (p j) 0 = 1) = decide (y.getD j 0 = 1) := fun j hj => by rw [getI _ (hp.1 j hj), hz j hj]
  constructor
  · refine ⟨fun _ => ⟨by rw [List.length_map, List.length_range, hn, Int.toNat_natCast], fun j hj => h01z j (by rw [hn, Int.toNat_natCast] at hj; exact hj), ?_⟩, fun e => absurd hk e⟩
    rw [hn, Int.toNat_natCast, weight1 ez, ← wS_perm (gw I) hp, wS_congr (ws' := gw (numK I n p)) (t' := fun j => decide (y.getD j 0 = 1)) (fun _ hj => (getI (fun j => gw I (p j)) hj).symm) et, ← weight1 (I := numK I n p) ey]
    exact hw
  · rw [← num1_eq hk hn hp hx hy, cost1 hk hn ezc, cost1 (I := numK I n p) hk hn eyc, ← vS_perm (gv I) hp]
    exact vS_congr (fun _ hj => (getI (fun j => gv I (p j)) hj).symm) et

/-- The items while they are numbered otherwise. -/
def itC (f : Nat → Int) (p : Nat → Nat) (a j : Nat) : Int := if j < a then f (p j) else f j
theorem itC_step (f : Nat → Int) (p : Nat → Nat) (a j : Nat) : upd (itC f p a) a (f (p a)) j = itC f p (a + 1) j := by
  by_cases e : j = a
  · subst e; rw [upd_same]; unfold itC; rw [if_pos (by omega)]
  · rw [upd_other _ e]; unfold itC
    by_cases h : j < a
    · rw [if_pos h, if_pos (by omega)]
    · rw [if_neg h, if_neg (by omega)]
theorem Arr.drewN {w : World} {g n : Nat} {f : Nat → Int} (h : Arr w g n f) (k : Nat) : Arr (w.drewN k) g n f := Row.keep (S := fun _ => False) h (Keep.of_below (below_drewN (Below.refl _ _) k)) (fun h => h)

theorem instAt_numK {I : Inst} {w : World} {n : Nat} {p : Nat → Nat} (hk : I.kind = 1) (hn : I.n = (n : Int)) (hc : I.cost = []) (hn64 : n ≤ 64) {g8 g11 c8 c11 c5 : Nat} {A5 : Option Addr} (h8 : Arr w g8 n (itC (gw I) p n)) (h11 : Arr w g11 n (itC (gv I) p n)) (hc8 : n ≤ c8) (hc11 : n ≤ c11) :
    InstAt w (.agg #[.int .i64 1, .int .i64 (n : Int), .int .i64 I.cap, .slice (some ⟨g8, 0, none⟩) n c8, .slice (some ⟨g11, 0, none⟩) n c11, .slice A5 0 c5]) (numK I n p) := by
  have l1 : (numK I n p).ws.length = n := by show ((List.range n).map _).length = n; simp
  have l2 : (numK I n p).vs.length = n := by show ((List.range n).map _).length = n; simp
  have l3 : (numK I n p).cost.length = 0 := by show I.cost.length = 0; rw [hc]; rfl
  refine ⟨some ⟨g8, 0, none⟩, c8, some ⟨g11, 0, none⟩, c11, A5, c5, ?_, by omega, by omega, by omega, by unfold big; omega, by unfold big; omega, by unfold big; omega, fun r => ?_, ?_, ?_, fun h => by omega⟩
  · rw [l1, l2, l3, show (numK I n p).kind = 1 from hk, show (numK I n p).n = (n : Int) from hn]; rfl
  · show (I.cost.getD r []).length ≤ big
    rw [hc]; simp
  · exact h8.ints l1 fun j hj => by
      show itC (gw I) p n j = ((List.range n).map fun j => gw I (p j)).getD j 0
      rw [getI _ hj]; unfold itC; rw [if_pos hj]
  · exact h11.ints l2 fun j hj => by
      show itC (gv I) p n j = ((List.range n).map fun j => gv I (p j)).getD j 0
      rw [getI _ hj]; unfold itC; rw [if_pos hj]

set_option maxRecDepth 200000 in
set_option maxHeartbeats 2000000 in
theorem numbered_1 (I : Inst) (hI : WF I) (hL : isLarge I = true) (hk : I.kind = 1) (v : Value) (w : World) (hv : InstAt w v I) (hT : TabW w) (AP AQ : Option Addr) (LP LQ : List Nat) (cP cQ : Nat) (hUP : U8At w AP LP) (hUQ : U8At w AQ LQ) :
    Calls Tryd.prog 5 #[v, .slice AP LP.length cP, .slice AQ LQ.length cQ] w fun e w' => e = .returned (.bool true) ∧ Below w.heap.size w w' := by
  obtain ⟨n, hn, hn1, hn64, hwl, hvl, hcost, hcap, hok⟩ := hI.knap hk
  have hn24 : n ≤ 24 := by have := large_kinds hL; omega
  have hlim := large_lim hL
  have HS := Lib.hid (fun W => stands_any W)
  have HLG := Lib.hid (fun W hv => large_true I hI hL v W hv)
  have HCP := Lib.hid (fun W hv => copy_any I v W hv (by rw [hcost]; exact Nat.zero_le _) (by rw [hcost]; intro j hj; cases hj) (by rw [hcost]; intro r; simp))
  have HBI := Lib.hid (fun W hv hT => topbest_any I hI hlim v W hv hT)
  have HCO := Lib.hid (fun W A c x hv hA hx => cost_any I hI v A c x W hv hA hx)
  have HBJ := Lib.hid (fun (lp : List Nat) (hp : Inj n (nf lp)) W v hv hT => topbest_any (numK I n (nf lp)) (numK_wf hI hk hn hp) hlim v W hv hT)
  have HIJ := Lib.hid (fun (lp : List Nat) W g8 g11 c8 c11 c5 A5 h8 h11 hc8 hc11 => instAt_numK (p := nf lp) (w := W) (g8 := g8) (g11 := g11) (c8 := c8) (c11 := c11) (c5 := c5) (A5 := A5) hk hn hcost hn64 h8 h11 hc8 hc11)
  have HEQ := Lib.hid (fun (lp : List Nat) (hp : Inj n (nf lp)) x y (hx : Opt I x) (hy : Opt (numK I n (nf lp)) y) => num1_eq hk hn hp hx hy)
  have HI := Lib.hid hI
  have HK := Lib.hid hk
  have HN := Lib.hid hn
  have HWL := Lib.hid (And.intro hwl (And.intro hvl hcost))
  have HV := Lib.hid hv
  have HT := Lib.hid hT
  have HUP := Lib.hid hUP
  have HUQ := Lib.hid hUQ
  obtain ⟨A1, c1, A2, c2, A3, c3, rfl, hc1', hc2', hI1, hI2⟩ := hv.kform hI hk hn
  have H1 := Lib.hid hI1
  have H2 := Lib.hid hI2
  obtain ⟨Cap, hCap⟩ : ∃ c, I.cap = c := ⟨_, rfl⟩
  rw [hCap] at HLG HCP HBI HV HCO HIJ ⊢
  have HCAP := Lib.hid hCap
  have HSP := Lib.hid (fun W hU => shuffled_any n AP LP cP W hn24 hU)
  have HSQ := Lib.hid (fun W hU => shuffled_any n AQ LQ cQ W hn24 hU)
  generalize LP.length = lP at *
  generalize LQ.length = lQ at *
  clear hI hL hk hv hT hlim hn hwl hvl hcost hcap hok hUP hUQ hI1 hI2 hCap
  go_enter Tryd.func5, Tryd.ntmps5
  go_wp2_with fail
  refine (HS.out _).mono ?_
  rintro e w1 ⟨rfl, hb1⟩
  have hB1 := keep_box hb1
  obtain ⟨hc1, hf1⟩ := bcell hb1
  have hbx1 := heap_keep (heap_new w (.cells #[.int .i64 1, .int .i64 (n : Int), .int .i64 Cap, .slice A1 n c1, .slice A2 n c2, .slice A3 0 c3] 25 (0, 0)) _ rfl) hb1
  have HX1 := Lib.hid hbx1
  have HB1 := Lib.hid hB1
  clear hb1 hB1 hbx1
  go_wp2_with fail
  refine (HLG.out _ (HV.out.keep HB1.out)).mono ?_
  rintro e w2 ⟨rfl, hb2⟩
  have hbx2 := heap_keep HX1.out hb2
  have HX2 := Lib.hid hbx2
  have HB2 := Lib.hid (keep_trans HB1.out hb2)
  have y1 := blk_cell hbx2 1
  simp at y1
  have HSP2 := Lib.hid (show ∀ W : World, W.heap = w2.heap → W.os = w2.os → W.tape = w2.tape → W.output = w2.output → _ from fun W a b c d => HSP.out W (HUP.out.keep (below_eqhx HB2.out a b c d)))
  have HSQ2 := Lib.hid (show ∀ Wx w4 W : World, Below Wx.heap.size Wx w4 → Wx.heap = w2.heap → Wx.os = w2.os → Wx.tape = w2.tape → Wx.output = w2.output → W.heap = w4.heap → W.os = w4.os → W.tape = w4.tape → W.output = w4.output → _ from fun Wx w4 W hb a b c d a' b' c' d' => HSQ.out W (HUQ.out.keep (below_eqhx (keep_trans (below_eqhx HB2.out a b c d) hb) a' b' c' d')))
  have HKC := Lib.hid (show ∀ (W w4 : World) (p : Addr) (u : Value), Below W.heap.size W w4 → W.cell? p = some u → w4.cell? p = some u from fun W w4 p u hb h => cell_keep hb h)
  clear hc1 hf1 hb2 hbx2 HX1 HB1
  go_upto_region 3 with (fail)
  go_region_held3 (fun w' => w'.cell? ⟨w.heap.size, 1, none⟩ = some (.int .i64 (n : Int)))
    (first | (go_keep; done) | exact HKC.out _ _ _ _ hb5 (by assumption) | exact HKC.out _ _ _ _ hb4 (by assumption))
    (first | (go_at_call 16; refine (HSQ2.out _ _ _ hb4 (by rfl) (by rfl) (by rfl) (by rfl) (by rfl) (by rfl) (by rfl) (by rfl)).mono ?_; rintro e w5 ⟨⟨lq, vq, rfl, hpq, hoq⟩, hb5⟩) | (go_at_call 16; refine (HSP2.out _ (by rfl) (by rfl) (by rfl) (by rfl)).mono ?_; rintro e w4 ⟨⟨lp, vp, rfl, hpp, hop⟩, hb4⟩) | fail)
  have hipp := perm_inj hpp
  obtain ⟨Ap, cp', rfl, hcp', hIp⟩ := hop.at
  have hpl : (lp.map fun k : Nat => (k : Int)).length = n := by rw [List.length_map]; exact hipp.1
  rw [hpl] at hcp' ⊢
  have hbx := heap_keep (heap_keep (show w2.drew.heap[w.heap.size]? = _ from HX2.out) hb4) hb5
  have HXk := Lib.hid hbx
  have HBk := Lib.hid (keep_trans (keep_trans (below_eqhx HB2.out (V := w2.drew) rfl rfl rfl rfl) hb4) hb5)
  have HIP := Lib.hid (hIp.keep (keep_trans (Below.refl _ _) hb5))
  have HPL := Lib.hid hpl
  have HPI := Lib.hid (show Inj n (nf lp) from hipp.2)
  have HCPk := Lib.hid (HCP.out w5 (HV.out.keep HBk.out))
  have HIJk := Lib.hid (HIJ.out lp)
  have HBJk := Lib.hid (HBJ.out lp HPI.out)
  have HEQk := Lib.hid (HEQ.out lp HPI.out)
  have hxl := heap_lt hbx
  have y0 := blk_cell hbx 0
  have y1' := blk_cell hbx 1
  have y2 := blk_cell hbx 2
  have y3 := blk_cell hbx 3
  have y4 := blk_cell hbx 4
  have y5 := blk_cell hbx 5
  clear y1 hipp hop hoq hIp hpl hbx hb4 hb5 hpp hpq HSP2 HSQ2 HKC HX2 HB2 HSP HSQ HCP HIJ HBJ HEQ
  go_wp2_with fail
  refine HCPk.out.mono ?_
  rintro e w3 ⟨v', rfl, A8, c8, A11, c11, A5, c5, r, cp, B, rfl, hBB, ho8, ho11, hap, -, hb3⟩
  obtain ⟨g8, k8, e8, hg8, hk8, hA8⟩ := ho8.arr (fun e => by have := HWL.out.1; rw [e] at this; simp at this; omega)
  obtain ⟨g11, k11, e11, hg11, hk11, hA11⟩ := ho11.arr (fun e => by have := HWL.out.2.1; rw [e] at this; simp at this; omega)
  cases e8
  cases e11
  rw [HWL.out.1] at hA8 hk8
  rw [HWL.out.2.1] at hA11 hk11
  rw [HWL.out.1, HWL.out.2.1, HWL.out.2.2, HK.out, HN.out, HCAP.out]
  simp only [List.length_nil]
  have hne : g8 ≠ g11 := fun e => hap g8 rfl (by rw [e]; rfl)
  have hl8 := Row.lt hA8
  have hl11 := Row.lt hA11
  have HX3 := Lib.hid (heap_keep HXk.out hb3)
  have HB3 := Lib.hid hb3
  have HA8 := Lib.hid hA8
  have HA11 := Lib.hid hA11
  have hs5 := hb3.size
  clear y0 y1' y2 y3 y4 y5 hb3 ho8 ho11 hap hA8 hA11
  go_wp2
  go_loopg [10] n (fun gg v10 wr => ∃ a : Nat, v10 = .int .i64 a ∧ a + gg = n ∧ Hid (Arr wr g8 n (itC (gw I) (nf lp) a)) ∧ Hid (Arr wr g11 n (itC (gv I) (nf lp) a)) ∧ Hid (Keep (fun k => k = g8 ∨ k = g11) (w3.alloc (.cells #[.int .i64 1, .int .i64 (n : Int), .int .i64 Cap, .slice (some ⟨g8, 0, none⟩) n c8, .slice (some ⟨g11, 0, none⟩) n c11, .slice A5 0 c5] 25 (0, 0))) wr))
  case atStart => exact ⟨0, rfl, by omega, Lib.hid ((Row.alloc HA8.out _).congr fun _ _ => rfl), Lib.hid ((Row.alloc HA11.out _).congr fun _ _ => rfl), Lib.hid (Keep.refl _ _)⟩
  case round =>
    obtain ⟨a, rfl, ha, HM8, HM11, HKr⟩ := hrel
    have hx1 : ¬ (w.heap.size = g8 ∨ w.heap.size = g11) := by omega
    have hx3 : ¬ (w3.heap.size = g8 ∨ w3.heap.size = g11) := by omega
    have hbi := HKr.out.heap (heap_old' HX3.out _) hx1
    have hbj := HKr.out.heap (heap_new w3 _ _ rfl) hx3
    have y0 := blk_cell hbi 0
    have y1 := blk_cell hbi 1
    have y2 := blk_cell hbi 2
    have y3 := blk_cell hbi 3
    have y4 := blk_cell hbi 4
    have y5 := blk_cell hbi 5
    have hBw : Below w5.heap.size w5 wr := HB3.out.trans ((HKr.out.below (B := w5.heap.size) (by simp; omega) (fun k hk e => by omega)) |> fun h => ((Below.refl _ _).alloc hs5 _).trans h)
    have HBw := Lib.hid hBw
    have HXi := Lib.hid hbi
    have HXj := Lib.hid hbj
    by_cases ca : a < n
    · have hai : (a : Int) < (n : Int) := by omega
      have z3 := blk_cell hbj 3
      have z4 := blk_cell hbj 4
      obtain ⟨adp, ep, hpc⟩ := (HIP.out.keep hBw).at_ (j := a) (by rw [HPL.out]; exact ca)
      subst ep
      rw [mapn_get] at hpc
      have hpa := HPI.out.1 a ca
      obtain ⟨pa, hpae⟩ : ∃ x, nf lp a = x := ⟨_, rfl⟩
      rw [show lp.getD a 0 = pa from hpae] at hpc
      rw [hpae] at hpa
      obtain ⟨ad1, e1, hw1⟩ := (H1.out.keep (keep_trans HBk.out hBw)).at_ (j := pa) (by rw [HWL.out.1]; exact hpa)
      obtain ⟨ad2, e2, hw2⟩ := (H2.out.keep (keep_trans HBk.out hBw)).at_ (j := pa) (by rw [HWL.out.2.1]; exact hpa)
      subst e1 e2
      obtain ⟨W1, hW1⟩ : ∃ x, I.ws.getD pa 0 = x := ⟨_, rfl⟩
      obtain ⟨V1, hV1⟩ : ∃ x, I.vs.getD pa 0 = x := ⟨_, rfl⟩
      rw [hW1] at hw1
      rw [hV1] at hw2
      have HW1 := Lib.hid (show gw I (nf lp a) = W1 by rw [hpae]; exact hW1)
      have HV1 := Lib.hid (show gv I (nf lp a) = V1 by rw [hpae]; exact hV1)
      have r1 := HM8.out.cell ca
      have r2 := HM11.out.cell ca
      have r3 := Row.free HM8.out a
      have r4 := Row.free HM11.out a
      have hpai : (pa : Int) < (n : Int) := by omega
      clear hpae hW1 hV1 hbi hbj hx1 hx3 hBw
      go_wp2
      go_big_region
      all_goals go_wp2
      all_goals go_roundg (gk - 1)
      case measure => omega
      case rel =>
        exact ⟨a + 1, by go_num, by omega, Lib.hid ((Arr.drew (Row.far (HM8.out.set a W1) (show g8 ≠ g11 from hne) _)).congr fun j _ => by rw [← HW1.out]; exact itC_step (gw I) (nf lp) a j), Lib.hid ((Arr.drew (Arr.set (Row.far HM11.out (show g11 ≠ g8 from hne.symm) _) a V1)).congr fun j _ => by rw [← HV1.out]; exact itC_step (gv I) (nf lp) a j), Lib.hid (((HKr.out.setCell (p := ⟨g8, a, none⟩) (.inl rfl) _).setCell (p := ⟨g11, a, none⟩) (.inr rfl) _).drew)⟩
    · have ea : n = a := by omega
      subst ea
      clear hbi hbj hx1 hx3 hBw
      have HBIr := Lib.hid (HBI.out wr (HV.out.keep (keep_trans HBk.out HBw.out)) (HT.out.keep (keep_trans HBk.out HBw.out)))
      clear HKr
      go_wp2_with fail
      refine HBIr.out.mono ?_
      rintro e w6 ⟨x, Ax, cx, rfl, hox, hxc, hix, hb6⟩
      obtain ⟨C, hC⟩ : ∃ C, costOf I x = C := ⟨_, rfl⟩
      rw [hC]
      have HC := Lib.hid hC
      have HOX := Lib.hid hox
      have HXj6 := Lib.hid (heap_keep HXj.out hb6)
      have HXi6 := Lib.hid (heap_keep HXi.out hb6)
      have HB6 := Lib.hid (keep_trans HBw.out hb6)
      have HBJr := Lib.hid (HBJk.out w6 _ (HIJk.out w6 g8 g11 c8 c11 c5 A5 (Row.keep (S := fun _ => False) HM8.out (Keep.of_below hb6) (fun h => h)) (Row.keep (S := fun _ => False) HM11.out (Keep.of_below hb6) (fun h => h)) hk8 hk11) (HT.out.keep (keep_trans HBk.out HB6.out)))
      have hxj := HXj6.out
      have z0 := blk_cell hxj 0
      have z1 := blk_cell hxj 1
      have z2 := blk_cell hxj 2
      have z3 := blk_cell hxj 3
      have z4 := blk_cell hxj 4
      have z5 := blk_cell hxj 5
      clear y0 y1 y2 y3 y4 y5 HBIr hC hox hxc hix hb6 HBw HXi HXj HM8 HM11 hxj HX3 HB3 HA8 HA11 HCPk HS HLG HBI
      go_wp2_with fail
      refine HBJr.out.mono ?_
      rintro e w7 ⟨y, Ay, cy, rfl, hoy, hyc, hiy, hb7⟩
      rw [HEQk.out x y HOX.out hoy, HC.out]
      have hyl : y.length = n := hoy.1.len (I := numK I n (nf lp)) HN.out
      rw [hyl] at hyc ⊢
      have HOY := Lib.hid hoy
      have HYL := Lib.hid hyl
      have HXi7 := Lib.hid (heap_keep HXi6.out hb7)
      have HB7 := Lib.hid (keep_trans HB6.out hb7)
      have hxi := HXi7.out
      have y0 := blk_cell hxi 0
      have y1 := blk_cell hxi 1
      have y2 := blk_cell hxi 2
      have y3 := blk_cell hxi 3
      have y4 := blk_cell hxi 4
      have y5 := blk_cell hxi 5
      have hCC : (C != C) = false := by simp
      have hNN : ((n : Int) != (n : Int)) = false := by simp
      have hmk := mk_ints1 n (by omega)
      obtain ⟨ad, eA, hcs⟩ := hiy (by rw [hyl]; omega)
      subst eA
      have HCS := Lib.hid hcs
      clear z0 z1 z2 z3 z4 z5 HBJr hoy hyl hiy hb7 hxi HXj6 HXi6 HB6 hcs
      go_wp2
      go_loopg [21] n (fun gg v21 wz => ∃ (a : Nat) (zf : Nat → Int), v21 = .int .i64 a ∧ a + gg = n ∧ Hid (Arr wz w7.heap.size n zf) ∧ Hid (Below w7.heap.size w7 wz) ∧ Hid (∀ j, j < a → zf (nf lp j) = y.getD j 0))
      case atStart => exact ⟨0, fun _ => 0, rfl, by omega, Lib.hid (Row.made w7 3 (.int .i64 0) n), Lib.hid ((Below.refl _ _).alloc (Nat.le_refl _) _), Lib.hid (fun j hj => by omega)⟩
      case round =>
        clear y0 y1 y2 y3 y4 y5
        obtain ⟨a, zf, rfl, ha, HZ, HBZ, HZF⟩ := hrel
        have hxi := heap_keep HXi7.out HBZ.out
        have y0 := blk_cell hxi 0
        have y1 := blk_cell hxi 1
        have y2 := blk_cell hxi 2
        have y3 := blk_cell hxi 3
        have y4 := blk_cell hxi 4
        have y5 := blk_cell hxi 5
        clear hxi
        by_cases ca : a < n
        · have hcy := cell_keep HBZ.out (HCS.out a (by rw [HYL.out]; exact ca))
          have hB5 := keep_trans HB7.out HBZ.out
          obtain ⟨adp, ep, hpc⟩ := (HIP.out.keep hB5).at_ (j := a) (by rw [HPL.out]; exact ca)
          subst ep
          rw [mapn_get] at hpc
          have hpa := HPI.out.1 a ca
          obtain ⟨pa, hpae⟩ : ∃ x, nf lp a = x := ⟨_, rfl⟩
          obtain ⟨ya, hyae⟩ : ∃ x, y.getD a 0 = x := ⟨_, rfl⟩
          rw [show lp.getD a 0 = pa from hpae] at hpc
          rw [hyae] at hcy
          rw [hpae] at hpa
          have HPA := Lib.hid hpae
          have HYA := Lib.hid hyae
          have zc := HZ.out.cell hpa
          have zfr := Row.free HZ.out pa
          have hpai : (pa : Int) < (n : Int) := by omega
          clear hpae hyae hB5
          go_wp2
          go_big_region
          all_goals go_wp2
          all_goals go_roundg (gk - 1)
          case measure => omega
          case rel =>
            refine ⟨a + 1, upd zf pa ya, by go_num, by omega, Lib.hid (HZ.out.set pa ya).drew, Lib.hid (HBZ.out.setCell (p := ⟨w7.heap.size, pa, none⟩) (Nat.le_refl _) _).drew, Lib.hid (fun j hj => ?_)⟩
            by_cases e : j = a
            · subst e; rw [HPA.out, HYA.out, upd_same]
            · rw [upd_other _ (fun e2 => e (HPI.out.2 j a (by omega) ca (by rw [HPA.out]; exact e2)))]
              exact HZF.out j (by omega)
        · have ea : n = a := by omega
          subst ea
          obtain ⟨hfz, hcz⟩ := num1_fin HK.out HN.out HPI.out HOX.out HOY.out HZF.out
          have hzl : ((List.range n).map zf).length = n := by simp
          have hco := HCO.out wr (some ⟨w7.heap.size, 0, none⟩) n ((List.range n).map zf) (HV.out.keep (keep_trans HBk.out (keep_trans HB7.out HBZ.out))) (HZ.out.ints hzl fun j hj => (getI zf hj).symm) hfz
          rw [hzl, hcz, HC.out] at hco
          have HCO2 := Lib.hid hco
          have hcc : (C == C) = true := by simp
          clear hco HCO hfz hcz hzl
          go_wp2_with fail
          refine HCO2.out.mono ?_
          rintro e w8 ⟨rfl, hb8⟩
          have HB8 := Lib.hid hb8
          clear hb8
          go_wp2
          go_ret
          exact ⟨rfl, keep_trans (keep_trans HBk.out (keep_trans HB7.out HBZ.out)) HB8.out⟩

set_option maxRecDepth 200000 in
theorem numbered_no (I : Inst) (h : ¬ (WF I ∧ isLarge I = true)) (v a b : Value) (w : World) (hv : InstAt w v I) : Calls Tryd.prog 5 #[v, a, b] w fun e w' => e = .returned (.bool true) ∧ Below w.heap.size w w' := by
  have HS := Lib.hid (fun W => stands_any W)
  have HLG := Lib.hid (fun W hv => large_false I h v W hv)
  have HV := Lib.hid hv
  obtain ⟨A1, c1, A2, c2, A3, c3, rfl, -⟩ := hv
  clear h
  generalize I.ws.length = l1 at *
  generalize I.vs.length = l2 at *
  generalize I.cost.length = l3 at *
  go_enter Tryd.func5, Tryd.ntmps5
  go_wp2_with fail
  refine (HS.out _).mono ?_
  rintro e w1 ⟨rfl, hb1⟩
  have HB1 := Lib.hid (keep_box hb1)
  obtain ⟨hc1, hf1⟩ := bcell hb1
  clear hb1
  go_wp2_with fail
  refine (HLG.out _ (HV.out.keep HB1.out)).mono ?_
  rintro e w2 ⟨rfl, hb2⟩
  have HB2 := Lib.hid (keep_trans HB1.out hb2)
  clear hb2 hc1 hf1
  go_wp2_with fail
  refine (HS.out _).mono ?_
  rintro e w3 ⟨rfl, hb3⟩
  have HB3 := Lib.hid (keep_trans HB2.out hb3)
  clear hb3
  go_wp2
  go_ret
  exact ⟨rfl, HB3.out⟩

theorem numbered_any (I : Inst) (v : Value) (w : World) (hv : InstAt w v I) (hT : TabW w) (AP AQ : Option Addr) (LP LQ : List Nat) (cP cQ : Nat) (hUP : U8At w AP LP) (hUQ : U8At w AQ LQ) :
    Calls Tryd.prog 5 #[v, .slice AP LP.length cP, .slice AQ LQ.length cQ] w fun e w' => e = .returned (.bool true) ∧ Below w.heap.size w w' := by
  by_cases h : WF I ∧ isLarge I = true
  · rcases h.1.kinds with hk | hk | hk
    · exact numbered_1 I h.1 h.2 hk v w hv hT AP AQ LP LQ cP cQ hUP hUQ
    · exact numbered_2 I h.1 h.2 hk v w hv hT AP AQ LP LQ cP cQ hUP hUQ
    · exact numbered_3 I h.1 h.2 hk v w hv hT AP AQ LP LQ cP cQ hUP hUQ
  · exact numbered_no I h v _ _ w hv
end Go.Proofs.YtmfgffmlnfimcaaDoor
