/- The walk of WholeBeside at assignments. -/
import Derived.Test.YtmfgffmlnfimcaaDoorT4
import Derived.Test.YtmfgffmlnfimcaaDoorMi
import Derived.BigRegion
namespace Go.Proofs.YtmfgffmlnfimcaaDoor
open Go Go.RowKit Go.Shelf Go.Sort Go.Deep

/-- Two assignments in one. -/
def bothI (I J : Inst) (n1 N : Nat) : Inst := { setC I N (blockC (elt I) (elt J) n1 2147483647) with n := (N : Int) }
theorem bothI_elt (I J : Inst) {n1 N a b : Nat} (ha : a < N) (hb : b < N) : elt (bothI I J n1 N) a b = blockC (elt I) (elt J) n1 2147483647 a b := elt_setC I _ ha hb
theorem bothI_wf {I J : Inst} (hI : WF I) (hJ : WF J) (hk : I.kind = 2) (hk2 : J.kind = 2) {n1 n2 : Nat} (h1 : I.n = (n1 : Int)) (h2 : J.n = (n2 : Int)) (h8 : n1 ≤ 8) (h8' : n2 ≤ 8) : WF (bothI I J n1 (n1 + n2)) := by
  obtain ⟨m1, e1, p1, -, -, l1, hcap, hw, hv, hr1, ok1, -⟩ := hI.rows (by omega)
  obtain ⟨m2, e2, p2, -, -, l2, -, -, -, hr2, ok2, -⟩ := hJ.rows (by omega)
  obtain rfl : n1 = m1 := by omega
  obtain rfl : n2 = m2 := by omega
  refine ⟨.inr ⟨.inl hk, ?_, ?_⟩, .inr ⟨by show I.kind ≠ 1; omega, ?_, hcap, ?_, ?_, fun r hr => ?_⟩, fun e => ?_, fun _ r hr c hc => ?_⟩
  · show (1 : Int) ≤ ((n1 + n2 : Nat) : Int); omega
  · show ((n1 + n2 : Nat) : Int) ≤ 24; omega
  · show ((setC I (n1 + n2) _).cost.length : Int) = ((n1 + n2 : Nat) : Int); rw [setC_len]
  · show I.ws.length = 0; rw [hw]; rfl
  · show I.vs.length = 0; rw [hv]; rfl
  · have hr' : r < n1 + n2 := by have h9 : r < (setC I (n1 + n2) (blockC (elt I) (elt J) n1 2147483647)).cost.length := hr; rwa [setC_len] at h9
    show (((setC I (n1 + n2) (blockC (elt I) (elt J) n1 2147483647)).cost.getD r []).length : Int) = ((n1 + n2 : Nat) : Int)
    rw [setC_row I _ hr']
  · have : I.kind = 1 := e
    omega
  · have hr' : r < n1 + n2 := by have h9 : r < (setC I (n1 + n2) (blockC (elt I) (elt J) n1 2147483647)).cost.length := hr; rwa [setC_len] at h9
    have hc' : c < n1 + n2 := by have h9 : c < ((setC I (n1 + n2) (blockC (elt I) (elt J) n1 2147483647)).cost.getD r []).length := hc; rwa [setC_row I _ hr'] at h9
    have e := bothI_elt I J (n1 := n1) hr' hc'
    unfold elt at e
    rw [e]
    refine ⟨?_, fun e => by have : I.kind = 3 := e; omega⟩
    unfold blockC
    split
    · exact ok1 r c (by omega) (by omega)
    · split
      · exact ok2 (r - n1) (c - n1) (by omega) (by omega)
      · unfold numOk; omega
theorem both2_fin {I J : Inst} (hI : WF I) (hJ : WF J) (hk : I.kind = 2) (hk2 : J.kind = 2) {n1 n2 : Nat} (h1 : I.n = (n1 : Int)) (h2 : J.n = (n2 : Int)) {x y z : List Int} (hx : Opt I x) (hy : Opt J y) (hz : Opt (bothI I J n1 (n1 + n2)) z) :
    costOf (bothI I J n1 (n1 + n2)) z = costOf I x + costOf J y ∨ 2147483647 ≤ costOf I x + costOf J y := by
  obtain ⟨m1, e1, -, -, -, -, -, -, -, -, ok1, -⟩ := hI.rows (by omega)
  obtain ⟨m2, e2, -, -, -, -, -, -, -, -, ok2, -⟩ := hJ.rows (by omega)
  obtain rfl : n1 = m1 := by omega
  obtain rfl : n2 = m2 := by omega
  exact beside2 (hx.best2 hk h1) (hy.best2 hk2 h2) ((hz.best2 (I := bothI I J n1 (n1 + n2)) hk rfl).congr fun a b ha hb => bothI_elt I J ha hb) (by decide) (fun a b ha hb => (ok1 a b ha hb).1) (fun a b ha hb => (ok2 a b ha hb).1)

theorem both_at {I J : Inst} {w : World} {n1 N c : Nat} {A : Option Addr} (hk : I.kind = 2) (hcz : N ≤ c) (hR : RowsAt w A (bothI I J n1 N).cost) (hN : N ≤ 16) (hcap : I.cap = 0) (hw : I.ws = []) (hv : I.vs = []) :
    InstAt w (.agg #[.int .i64 2, .int .i64 (N : Int), .int .i64 0, .slice none 0 0, .slice none 0 0, .slice A N c]) (bothI I J n1 N) := by
  have l3 : (bothI I J n1 N).cost.length = N := setC_len I N _
  refine ⟨none, 0, none, 0, A, c, ?_, by show I.ws.length ≤ 0; rw [hw]; exact Nat.le_refl _, by show I.vs.length ≤ 0; rw [hv]; exact Nat.le_refl _, by rw [l3]; exact hcz, by show I.ws.length ≤ _; rw [hw]; exact Nat.zero_le _, by show I.vs.length ≤ _; rw [hv]; exact Nat.zero_le _, by rw [l3]; unfold big; omega, fun q => ?_, (by show IntsAt w none I.ws; rw [hw]; intro h; cases h), (by show IntsAt w none I.vs; rw [hv]; intro h; cases h), hR⟩
  · rw [l3]
    show _ = Value.agg #[.int .i64 I.kind, .int .i64 (N : Int), .int .i64 I.cap, .slice none I.ws.length 0, .slice none I.vs.length 0, .slice A N c]
    rw [hk, hcap, hw, hv]; rfl
  · by_cases hq : q < N
    · rw [show (bothI I J n1 N).cost = (setC I N (blockC (elt I) (elt J) n1 2147483647)).cost from rfl, setC_row I _ hq]; unfold big; omega
    · rw [List.getD_eq_getElem?_getD, List.getElem?_eq_none (by rw [l3]; omega)]; exact Nat.zero_le _

/-- The row while it is made. -/
def mk (f : Nat → Int) (k b : Nat) : Int := if b < k then f b else 0
theorem mk_step (f : Nat → Int) (k b : Nat) : upd (mk f k) k (f k) b = mk f (k + 1) b := by
  by_cases e : b = k
  · subst e; rw [upd_same]; unfold mk; rw [if_pos (by omega)]
  · rw [upd_other _ e]; unfold mk
    by_cases h : b < k
    · rw [if_pos h, if_pos (by omega)]
    · rw [if_neg h, if_neg (by omega)]

set_option maxRecDepth 200000 in
set_option maxHeartbeats 2000000 in
theorem beside_2 (I J : Inst) (hI : WF I) (hJ : WF J) (hL : isLarge I = true) (hL2 : isLarge J = true) (hk : I.kind = 2) (hk2 : J.kind = 2) (n1 n2 : Nat) (h1 : I.n = (n1 : Int)) (h2 : J.n = (n2 : Int)) (h8 : n1 ≤ 8) (h8' : n2 ≤ 8) (v u : Value) (w : World) (hv : InstAt w v I) (hu : InstAt w u J) (hT : TabW w) :
    Calls Tryd.prog 4 #[v, u] w fun e w' => e = .returned (.bool true) ∧ Below w.heap.size w w' := by
  obtain ⟨m1, e1, p1, -, -, l1, icap, iws, ivs, hr1, ok1, -⟩ := hI.rows (by omega)
  obtain ⟨m2, e2, p2, -, -, l2, -, -, -, hr2, ok2, -⟩ := hJ.rows (by omega)
  obtain rfl : n1 = m1 := by omega
  obtain rfl : n2 = m2 := by omega
  have HI3 := Lib.hid (And.intro icap (And.intro iws ivs))
  clear icap iws ivs
  have HS := Lib.hid (fun W => stands_any W)
  have H9 := Lib.hid (fun W hv => large_true I hI hL v W hv)
  have H9' := Lib.hid (fun W hu => large_true J hJ hL2 u W hu)
  have HBI := Lib.hid (fun W hv hT => topbest_any I hI (large_lim hL) v W hv hT)
  have HBJ := Lib.hid (fun W hu hT => topbest_any J hJ (large_lim hL2) u W hu hT)
  have HBB := Lib.hid (fun W x hx hT => topbest_any (bothI I J n1 (n1 + n2)) (bothI_wf hI hJ hk hk2 h1 h2 h8 h8') ⟨fun e => by have : I.kind = 1 := e; omega, fun e => by have : I.kind = 3 := e; omega⟩ x W hx hT)
  have HFIN := Lib.hid (fun x y z (hx : Opt I x) (hy : Opt J y) (hz : Opt (bothI I J n1 (n1 + n2)) z) => both2_fin hI hJ hk hk2 h1 h2 hx hy hz)
  have HRI := Lib.hid (fun x (hx : Opt I x) => cost_range hI hx.1 (by omega))
  have HRJ := Lib.hid (fun x (hx : Opt J x) => cost_range hJ hx.1 (by omega))
  have HV := Lib.hid hv
  have HU := Lib.hid hu
  have HT := Lib.hid hT
  have HK := Lib.hid hk
  have HR1 := Lib.hid hr1
  have HR2 := Lib.hid hr2
  have HL1 := Lib.hid l1
  have HL2 := Lib.hid l2
  obtain ⟨A1, c1, A2, c2, A3, c3, rfl, hc3, hA⟩ := hv.mform hI hk (by decide) h1
  obtain ⟨B1, d1, B2, d2, B3, d3, rfl, hd3, hB⟩ := hu.mform hJ hk2 (by decide) h2
  have HA := Lib.hid hA
  have HB := Lib.hid hB
  have hf1 : (n1 : Int) ≤ 8 := by omega
  have hf2 : (n2 : Int) ≤ 8 := by omega
  clear hI hJ hL hL2 hk hk2 h1 h2 e1 e2 l1 l2 hr1 hr2 ok1 ok2 hv hu hT hA hB
  go_enter Tryd.func4, Tryd.ntmps4
  go_wp2_with fail
  refine (HS.out _).mono ?_
  rintro e w1 ⟨rfl, hb1⟩
  have hbx1 := heap_keep (heap_old' (heap_new w (.cells #[.int .i64 2, .int .i64 (n1 : Int), .int .i64 0, .slice A1 0 c1, .slice A2 0 c2, .slice A3 n1 c3] 25 (0, 0)) _ rfl) (.cells #[.int .i64 2, .int .i64 (n2 : Int), .int .i64 0, .slice B1 0 d1, .slice B2 0 d2, .slice B3 n2 d3] 25 (0, 0))) hb1
  have hby1 := heap_keep (heap_new (w.alloc (.cells #[.int .i64 2, .int .i64 (n1 : Int), .int .i64 0, .slice A1 0 c1, .slice A2 0 c2, .slice A3 n1 c3] 25 (0, 0))) (.cells #[.int .i64 2, .int .i64 (n2 : Int), .int .i64 0, .slice B1 0 d1, .slice B2 0 d2, .slice B3 n2 d3] 25 (0, 0)) (w.heap.size + 1) (by simp)) hb1
  have HX1 := Lib.hid hbx1
  have HY1 := Lib.hid hby1
  have HB1 := Lib.hid (keep_trans (two_boxes w _ _) hb1)
  have x0 := blk_cell hbx1 0
  have x1 := blk_cell hbx1 1
  have x2 := blk_cell hbx1 2
  have x3 := blk_cell hbx1 3
  have x4 := blk_cell hbx1 4
  have x5 := blk_cell hbx1 5
  have y0 := blk_cell hby1 0
  have y1 := blk_cell hby1 1
  have y2 := blk_cell hby1 2
  have y3 := blk_cell hby1 3
  have y4 := blk_cell hby1 4
  have y5 := blk_cell hby1 5
  clear hb1 hbx1 hby1
  go_wp2_with fail
  refine (H9.out _ (HV.out.keep HB1.out)).mono ?_
  rintro e w2 ⟨rfl, hb2⟩
  have hbx2 := heap_keep HX1.out hb2
  have hby2 := heap_keep HY1.out hb2
  have HX2 := Lib.hid hbx2
  have HY2 := Lib.hid hby2
  have HB2 := Lib.hid (keep_trans HB1.out hb2)
  clear x0 x1 x2 x3 x4 x5 y0 y1 y2 y3 y4 y5
  have x0 := blk_cell hbx2 0
  have x1 := blk_cell hbx2 1
  have x2 := blk_cell hbx2 2
  have x3 := blk_cell hbx2 3
  have x4 := blk_cell hbx2 4
  have x5 := blk_cell hbx2 5
  have y0 := blk_cell hby2 0
  have y1 := blk_cell hby2 1
  have y2 := blk_cell hby2 2
  have y3 := blk_cell hby2 3
  have y4 := blk_cell hby2 4
  have y5 := blk_cell hby2 5
  clear hb2 hbx2 hby2
  go_wp2_with fail
  refine (H9'.out _ (HU.out.keep HB2.out)).mono ?_
  rintro e w3 ⟨rfl, hb3⟩
  have hbx3 := heap_keep HX2.out hb3
  have hby3 := heap_keep HY2.out hb3
  have HX3 := Lib.hid hbx3
  have HY3 := Lib.hid hby3
  have HB3 := Lib.hid (keep_trans HB2.out hb3)
  clear x0 x1 x2 x3 x4 x5 y0 y1 y2 y3 y4 y5
  have x0 := blk_cell hbx3 0
  have x1 := blk_cell hbx3 1
  have x2 := blk_cell hbx3 2
  have x3 := blk_cell hbx3 3
  have x4 := blk_cell hbx3 4
  have x5 := blk_cell hbx3 5
  have y0 := blk_cell hby3 0
  have y1 := blk_cell hby3 1
  have y2 := blk_cell hby3 2
  have y3 := blk_cell hby3 3
  have y4 := blk_cell hby3 4
  have y5 := blk_cell hby3 5
  clear hb3 hbx3 hby3
  go_wp2_with fail
  refine (HBI.out _ (HV.out.keep HB3.out) (HT.out.keep HB3.out)).mono ?_
  rintro e w4 ⟨x, Ax, cx, rfl, hox, -, -, hb4⟩
  have hrg := HRI.out x hox
  obtain ⟨C, hC⟩ : ∃ C, costOf I x = C := ⟨_, rfl⟩
  rw [hC] at hrg ⊢
  have HC := Lib.hid hC
  have HRC := Lib.hid hrg
  have HOX := Lib.hid hox
  have hbx4 := heap_keep HX3.out hb4
  have hby4 := heap_keep HY3.out hb4
  have HX4 := Lib.hid hbx4
  have HY4 := Lib.hid hby4
  have HB4 := Lib.hid (keep_trans HB3.out hb4)
  clear x0 x1 x2 x3 x4 x5 y0 y1 y2 y3 y4 y5 hC hrg hox
  have x0 := blk_cell hbx4 0
  have x1 := blk_cell hbx4 1
  have x2 := blk_cell hbx4 2
  have x3 := blk_cell hbx4 3
  have x4 := blk_cell hbx4 4
  have x5 := blk_cell hbx4 5
  have y0 := blk_cell hby4 0
  have y1 := blk_cell hby4 1
  have y2 := blk_cell hby4 2
  have y3 := blk_cell hby4 3
  have y4 := blk_cell hby4 4
  have y5 := blk_cell hby4 5
  clear hb4 hbx4 hby4
  go_wp2_with fail
  refine (HBJ.out _ (HU.out.keep HB4.out) (HT.out.keep HB4.out)).mono ?_
  rintro e w5 ⟨y, Ay, cy, rfl, hoy, -, -, hb5⟩
  have hrg := HRJ.out y hoy
  obtain ⟨D, hD⟩ : ∃ D, costOf J y = D := ⟨_, rfl⟩
  rw [hD] at hrg ⊢
  have HD := Lib.hid hD
  have HRD := Lib.hid hrg
  have HOY := Lib.hid hoy
  have hbx5 := heap_keep HX4.out hb5
  have hby5 := heap_keep HY4.out hb5
  have HX5 := Lib.hid hbx5
  have HY5 := Lib.hid hby5
  have HB5 := Lib.hid (keep_trans HB4.out hb5)
  have hxl := heap_lt hbx5
  have hyl := heap_lt hby5
  clear x0 x1 x2 x3 x4 x5 y0 y1 y2 y3 y4 y5 hD hrg hoy
  have x0 := blk_cell hbx5 0
  have x1 := blk_cell hbx5 1
  have x2 := blk_cell hbx5 2
  have x3 := blk_cell hbx5 3
  have x4 := blk_cell hbx5 4
  have x5 := blk_cell hbx5 5
  have y0 := blk_cell hby5 0
  have y1 := blk_cell hby5 1
  have y2 := blk_cell hby5 2
  have y3 := blk_cell hby5 3
  have y4 := blk_cell hby5 4
  have y5 := blk_cell hby5 5
  clear hb5 hbx5 hby5 HX1 HX2 HX3 HX4 HY1 HY2 HY3 HY4 HB1 HB2 HB3 HB4 H9 H9' HBI HBJ HRI HRJ HS
  obtain ⟨N, hN⟩ : ∃ N, n1 + n2 = N := ⟨_, rfl⟩
  have hNi : (n1 : Int) + (n2 : Int) = (N : Int) := by omega
  have hNN := Lib.hid hN
  rw [hN] at HBB HFIN
  have hN16 : N ≤ 16 := by omega
  clear hN
  have hmk := mk_ints1 N (by omega)
  go_wp2
  clear x0 x1 x2 x3 x4 x5 y0 y1 y2 y3 y4 y5
  go_loopg [15] N (fun gg v15 wr => ∃ (a : Nat) (vv : Value) (r cp : Nat → Nat), v15 = .int .i64 a ∧ a + gg = N ∧ Hid (RowsO wr (w5.heap.size + 1) vv (bothI I J n1 N).cost a r cp) ∧ Hid (wr.heap[w5.heap.size]? = some (.cells #[.int .i64 2, .int .i64 (N : Int), .int .i64 0, .slice none 0 0, .slice none 0 0, vv] 25 (0, 0))) ∧ Hid (Below w5.heap.size w5 wr))
  case atStart => exact ⟨0, _, _, _, rfl, by omega, Lib.hid (RowsO.nil _ _ _), Lib.hid (heap_new w5 _ _ rfl), Lib.hid ((Below.refl _ _).alloc (Nat.le_refl _) _)⟩
  case round =>
    obtain ⟨a, vv, r, cp, rfl, ha, HR, HZ, HBr⟩ := hrel
    have hbx := heap_keep HX5.out HBr.out
    have hby := heap_keep HY5.out HBr.out
    have hbz := HZ.out
    have hpl := heap_lt hbz
    have x1 := blk_cell hbx 1
    have x5 := blk_cell hbx 5
    have y1 := blk_cell hby 1
    have y5 := blk_cell hby 5
    have z0 := blk_cell hbz 0
    have z1 := blk_cell hbz 1
    have z2 := blk_cell hbz 2
    have z3 := blk_cell hbz 3
    have z4 := blk_cell hbz 4
    have z5 := blk_cell hbz 5
    have HXr := Lib.hid hbx
    have HYr := Lib.hid hby
    clear hbx hby hbz
    by_cases ca : a < N
    · have hai : (a : Int) < (N : Int) := by omega
      go_wp2
      obtain ⟨gL, rfl⟩ : ∃ g : Nat, g = gk := ⟨_, rfl⟩
      obtain ⟨wo, rfl⟩ : ∃ W : World, W = wr := ⟨_, rfl⟩
      clear x1 x5 y1 y5 z0 z1 z2 z3 z4 z5
      go_loopg [17] N (fun gg v17 wq => ∃ b : Nat, v17 = .int .i64 b ∧ b + gg = N ∧ Hid (Arr wq wo.heap.size N (mk (blockC (elt I) (elt J) n1 2147483647 a) b)) ∧ Hid (Below wo.heap.size wo wq))
      case atStart => exact ⟨0, rfl, by omega, Lib.hid (Row.made wo 3 (.int .i64 0) N), Lib.hid ((Below.refl _ _).alloc (Nat.le_refl _) _)⟩
      case round =>
        obtain ⟨b, rfl, hb, HAq, HBq⟩ := hrel
        have hbx := heap_keep HXr.out HBq.out
        have hby := heap_keep HYr.out HBq.out
        have hbz := heap_keep HZ.out HBq.out
        have x1 := blk_cell hbx 1
        have x5 := blk_cell hbx 5
        have y1 := blk_cell hby 1
        have y5 := blk_cell hby 5
        have z1 := blk_cell hbz 1
        have z5 := blk_cell hbz 5
        clear hbx hby
        by_cases cb : b < N
        · have hbi : (b : Int) < (N : Int) := by omega
          have r2 := HAq.out.cell cb
          have r3 := Row.free HAq.out b
          have hB5q := keep_trans HB5.out (keep_trans HBr.out HBq.out)
          have HBW := Lib.hid hB5q
          clear hbz hB5q
          by_cases c1' : a < n1
          · have hA1 : (a : Int) < (n1 : Int) := by omega
            by_cases c2' : b < n1
            · have hA2 : (b : Int) < (n1 : Int) := by omega
              obtain ⟨ad, Br, cr, e1, hx, hxc, hBA⟩ := (HA.out.keep HBW.out).at_ (j := a) (by rw [HL1.out]; exact c1')
              subst e1
              obtain ⟨ad2, e2, hxe⟩ := hBA.at_ (j := b) (by rw [HR1.out a c1']; exact c2')
              subst e2
              rw [HR1.out a c1'] at hx hxc
              have hel : (I.cost.getD a []).getD b 0 = blockC (elt I) (elt J) n1 2147483647 a b := by unfold blockC; rw [if_pos ⟨c1', c2'⟩]; rfl
              rw [hel] at hxe
              obtain ⟨E, hE⟩ : ∃ E, blockC (elt I) (elt J) n1 2147483647 a b = E := ⟨_, rfl⟩
              rw [hE] at hxe
              have HE := Lib.hid hE
              clear hel hE hBA
              go_wp2
              go_roundg (gk - 1)
              case measure => omega
              case rel => exact ⟨b + 1, by go_num, by omega, Lib.hid ((HAq.out.set b E).congr fun j _ => by rw [← HE.out]; exact mk_step (blockC (elt I) (elt J) n1 2147483647 a) b j), Lib.hid (HBq.out.setCell (p := ⟨wo.heap.size, b, none⟩) (Nat.le_refl _) _)⟩
            · have hA2 : ¬ (b : Int) < (n1 : Int) := by omega
              have hA3 : ¬ (n1 : Int) ≤ (a : Int) := by omega
              have HE := Lib.hid (show blockC (elt I) (elt J) n1 2147483647 a b = 2147483647 by unfold blockC; rw [if_neg (by omega), if_neg (by omega)])
              go_wp2
              go_roundg (gk - 1)
              case measure => omega
              case rel => exact ⟨b + 1, by go_num, by omega, Lib.hid ((HAq.out.set b 2147483647).congr fun j _ => by rw [← mk_step (blockC (elt I) (elt J) n1 2147483647 a) b j, HE.out]), Lib.hid (HBq.out.setCell (p := ⟨wo.heap.size, b, none⟩) (Nat.le_refl _) _)⟩
          · have hA1 : ¬ (a : Int) < (n1 : Int) := by omega
            have hA3 : (n1 : Int) ≤ (a : Int) := by omega
            by_cases c2' : b < n1
            · have hA4 : ¬ (n1 : Int) ≤ (b : Int) := by omega
              have HE := Lib.hid (show blockC (elt I) (elt J) n1 2147483647 a b = 2147483647 by unfold blockC; rw [if_neg (by omega), if_neg (by omega)])
              go_wp2
              go_roundg (gk - 1)
              case measure => omega
              case rel => exact ⟨b + 1, by go_num, by omega, Lib.hid ((HAq.out.set b 2147483647).congr fun j _ => by rw [← mk_step (blockC (elt I) (elt J) n1 2147483647 a) b j, HE.out]), Lib.hid (HBq.out.setCell (p := ⟨wo.heap.size, b, none⟩) (Nat.le_refl _) _)⟩
            · have hA4 : (n1 : Int) ≤ (b : Int) := by omega
              have hNN2 := hNN.out
              obtain ⟨a', ha'⟩ : ∃ x, a - n1 = x := ⟨_, rfl⟩
              obtain ⟨b', hb'⟩ : ∃ x, b - n1 = x := ⟨_, rfl⟩
              have ha2 : a' < n2 := by omega
              have hb2 : b' < n2 := by omega
              have hs1 : (a : Int) - (n1 : Int) = (a' : Int) := by omega
              have hs2 : (b : Int) - (n1 : Int) = (b' : Int) := by omega
              have ha2i : (a' : Int) < (n2 : Int) := by omega
              have hb2i : (b' : Int) < (n2 : Int) := by omega
              obtain ⟨ad, Br, cr, e1, hx, hxc, hBA⟩ := (HB.out.keep HBW.out).at_ (j := a') (by rw [HL2.out]; exact ha2)
              subst e1
              obtain ⟨ad2, e2, hxe⟩ := hBA.at_ (j := b') (by rw [HR2.out a' ha2]; exact hb2)
              subst e2
              rw [HR2.out a' ha2] at hx hxc
              have hel : (J.cost.getD a' []).getD b' 0 = blockC (elt I) (elt J) n1 2147483647 a b := by unfold blockC; rw [if_neg (by omega), if_pos (by omega), ha', hb']; rfl
              rw [hel] at hxe
              obtain ⟨E, hE⟩ : ∃ E, blockC (elt I) (elt J) n1 2147483647 a b = E := ⟨_, rfl⟩
              rw [hE] at hxe
              have HE := Lib.hid hE
              clear hel hE hBA ha' hb' hNN2
              go_wp2
              go_big_region
              all_goals go_wp2
              all_goals go_roundg (gk - 1)
              case measure => omega
              case rel => exact ⟨b + 1, by go_num, by omega, Lib.hid (((HAq.out.set b E).congr fun j _ => by rw [← HE.out]; exact mk_step (blockC (elt I) (elt J) n1 2147483647 a) b j).drew), Lib.hid (HBq.out.setCell (p := ⟨wo.heap.size, b, none⟩) (Nat.le_refl _) _).drew⟩
        · have eb : N = b := by omega
          subst eb
          have hBs := HBq.out.size
          have hk24 : (a + 1) * 24 ≤ 140737488355328 := by omega
          have hk25 : a ≤ 17592186044000 := by omega
          have hB4 : w5.heap.size + 1 ≤ wr.heap.size := by omega
          clear hbz
          go_wp2_with (at_builtin; refine append_row rfl _ _ rfl (w5.heap.size + 1) vv a _ rfl wr (own_keep HR.out.own HBq.out) (.slice (some ⟨wo.heap.size, 0, none⟩) N N) rfl rfl hk25 hk24 hB4 ?_)
          intro v' w' h1 h2 h3 h4
          obtain ⟨gv, cv, hv'⟩ : ∃ g c, v' = .slice (some ⟨g, 0, none⟩) (a + 1) c := by
            rcases h1.2 with ⟨-, h0⟩ | ⟨g, cap, cur, e, -⟩
            · omega
            · exact ⟨g, cap, e⟩
          subst hv'
          have hvv : vv.ownBlock ≠ some w5.heap.size := fun e => by have := (own_block HR.out.own e).1; omega
          have hz' : w'.heap[w5.heap.size]? = some (.cells #[.int .i64 2, .int .i64 (N : Int), .int .i64 0, .slice none 0 0, .slice none 0 0, vv] 25 (0, 0)) := (h3 _ (by omega) hvv).trans (heap_keep HZ.out HBq.out)
          have q5 := blk_cell hz' 5
          have qf := blk_free hz' 5
          have HX := Lib.hid (And.intro h1 (And.intro h2 (And.intro h3 (And.intro h4 hz'))))
          clear h1 h2 h3 h4 hz' hvv
          go_wp2
          go_roundg (gL - 1)
          case measure => omega
          case rel =>
            obtain ⟨h1, h2, h3, h4, hz'⟩ := HX.out
            have hlen : ((bothI I J n1 N).cost.getD a []).length = N := setC_row I _ ca
            have hval : ∀ j, j < N → mk (blockC (elt I) (elt J) n1 2147483647 a) N j = ((bothI I J n1 N).cost.getD a []).getD j 0 := fun j hj => by
              unfold mk; rw [if_pos hj]
              exact (bothI_elt I J ca hj).symm
            refine ⟨a + 1, _, upd r a wo.heap.size, upd cp a N, by go_num, by omega, Lib.hid (RowsO.far (RowsO.more HR.out (by omega) HBq.out (Nat.le_refl _) (by rw [hlen]; exact Nat.le_refl _) (by rw [hlen]; exact HAq.out.congr hval) (by rw [hlen]; exact h1) h3 h4) (a := ⟨w5.heap.size, 5, none⟩) (by show w5.heap.size < w5.heap.size + 1; omega) _), Lib.hid ?_, Lib.hid ?_⟩
            · have := heap_set hz' 5 (.slice (some ⟨gv, 0, none⟩) (a + 1) cv)
              simpa using this
            · exact ((keep_trans HBr.out HBq.out).trans (h2.mono (by omega))).setCell (p := ⟨w5.heap.size, 5, none⟩) (Nat.le_refl _) _
    · have ea : N = a := by omega
      subst ea
      obtain ⟨Az, cz, e, hcz, hRz⟩ := HR.out.rowsAt (setC_len I N _)
      subst e
      have hBw := keep_trans HB5.out HBr.out
      have HBW := Lib.hid hBw
      have hin := HBB.out wr _ (both_at HK.out hcz hRz (by omega) HI3.out.1 HI3.out.2.1 HI3.out.2.2) (HT.out.keep hBw)
      have HIN := Lib.hid hin
      clear hRz hBw hin hmk
      go_wp2_with fail
      refine HIN.out.mono ?_
      rintro e w6 ⟨z, Az', cz', rfl, hoz, -, -, hb6⟩
      have hfin := HFIN.out x y z HOX.out HOY.out hoz
      rw [HC.out, HD.out] at hfin
      obtain ⟨E, hE⟩ : ∃ E, costOf (bothI I J n1 N) z = E := ⟨_, rfl⟩
      rw [hE] at hfin ⊢
      have hc := HRC.out
      have hd := HRD.out
      have hsum : IntKind.i64.wrap (C + D) = C + D := by rw [IntKind.wrap_i64]; omega
      have HB6 := Lib.hid (keep_trans HBW.out hb6)
      clear hE hoz hb6 z0 z1 z2 z3 z4 z5 x1 x5 y1 y5
      by_cases hq : E = C + D
      · subst hq
        have heq : (C + D == C + D) = true := by simp
        clear hfin
        go_wp2
        go_ret
        exact ⟨rfl, HB6.out⟩
      · have heq : (E == C + D) = false := by simp; exact hq
        have hge : 2147483647 ≤ C + D := hfin.resolve_left hq
        clear hfin hq
        go_wp2
        go_ret
        exact ⟨rfl, HB6.out⟩
end Go.Proofs.YtmfgffmlnfimcaaDoor
