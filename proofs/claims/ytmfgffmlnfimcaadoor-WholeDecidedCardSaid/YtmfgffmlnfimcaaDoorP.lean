/- The walk of exact.Tour. -/
import Derived.Test.YtmfgffmlnfimcaaDoorN
import Derived.Test.YtmfgffmlnfimcaaDoorO
namespace Go.Proofs.YtmfgffmlnfimcaaDoor
open Go Go.RowKit Go.Deep

theorem mk_nils (K : Nat) (hK : K ≤ 1000000) : ∀ W : World, (Instr.makeSlice 23 (.int .i64 (K : Int)) (.int .i64 (K : Int))).run Tryd.prog W = .ok (.slice (some ⟨W.heap.size, 0, none⟩) K K) (W.alloc (.cells (madeCells #[.slice none 0 0] K) 22)) := by
  intro W
  exact run_make_row' (P := Tryd.prog) 23 22 (.slice none 0 0) 24 Tryd.underlying23 (by kernel_rfl) rfl .i64 .i64 K (by omega) (by omega) W

/-- The table, new. -/
structure Made2 (w : World) (K p c0 b0 : Nat) (wc : World) : Prop where
  wb : WB wc p c0 b0 K
  rc : Row wc c0 22 K fun _ => .slice none 0 0
  rb : Row wc b0 22 K fun _ => .slice none 0 0
  hd : p ≠ c0 ∧ p ≠ b0 ∧ c0 ≠ b0
  ge : w.heap.size ≤ c0 ∧ w.heap.size ≤ b0
  bl : Below w.heap.size w wc

theorem made2 (w : World) (K c0 b0 : Nat) (h1 : w.heap.size ≤ c0 ∧ c0 < w.heap.size + 2) (h2 : w.heap.size ≤ b0 ∧ b0 < w.heap.size + 2) (d : c0 ≠ b0) :
    Made2 w K (w.heap.size + 2) c0 b0 (((w.alloc (.cells (madeCells #[.slice none 0 0] K) 22)).alloc (.cells (madeCells #[.slice none 0 0] K) 22)).alloc (.cells #[.slice (some ⟨c0, 0, none⟩) K K, .slice (some ⟨b0, 0, none⟩) K K] 68)).drew := by
  generalize hM : (Obj.cells (madeCells #[Value.slice none 0 0] K) 22) = M
  have row : ∀ g, w.heap.size ≤ g ∧ g < w.heap.size + 2 → ∀ o, Row (((w.alloc M).alloc M).alloc o) g 22 K (fun _ => .slice none 0 0) := by
    intro g hg o
    subst hM
    rcases (show g = w.heap.size ∨ g = w.heap.size + 1 by omega) with e | e <;> subst e
    · exact ((Row.made w 22 _ _).alloc _).alloc _
    · have h := (Row.made (w.alloc (.cells (madeCells #[.slice none 0 0] K) 22)) 22 (.slice none 0 0) K).alloc o
      simpa using h
  refine ⟨heap_new _ _ _ (by simp), row c0 h1 _, row b0 h2 _, ⟨by omega, by omega, d⟩, ⟨h1.1, h2.1⟩, ?_⟩
  exact ((((Below.refl _ _).alloc (Nat.le_refl _) _).alloc (by simp) _).alloc (by simp; omega) _).drew

set_option maxRecDepth 100000 in
set_option maxHeartbeats 4000000 in
theorem tour_any (I : Inst) (hI : WF I) (hk : I.kind = 3) (h12 : I.n ≤ 12) (v : Value) (w : World) (hv : InstAt w v I) : Calls Tryd.prog 29 #[v] w (Tells I w) := by
  obtain ⟨N, hn, hn1, hn2, -, hcl, -, -, -, hrl, hok, -⟩ := hI.rows (by omega)
  have htk := fun W hv => takes_any I hI v W hv ⟨by omega, by omega⟩
  have htd := fun A c x W hv hA hx => told_any I hI v A c x W hv hA hx
  obtain ⟨n, rfl⟩ : ∃ n, N = n + 1 := ⟨N - 1, by omega⟩
  have hfl := fun p c0 b0 W hn1 hB hp hc hb hd hge => fill_any I hI hk v n p c0 b0 w W hn hn1 (by omega) hv hB hp hc hb hd hge
  rw [hk] at htk
  have HTK := Lib.hid htk
  have HTD := Lib.hid htd
  have HFL := Lib.hid hfl
  have HI := Lib.hid hI
  have HV := Lib.hid hv
  have HK := Lib.hid hk
  have HN := Lib.hid hn
  have HCL := Lib.hid hcl
  have HRL := Lib.hid hrl
  have HOK := Lib.hid hok
  obtain ⟨A1, c1, A2, c2, A3, c3, rfl, -, -, -, -, -, -, -, -, -, h10⟩ := hv
  have H10 := Lib.hid h10
  rw [hcl, hn, hk] at HV HTK HTD HFL ⊢
  have hn11 : n ≤ 11 := by omega
  have hpw : 2 ^ n ≤ 2048 := Nat.pow_le_pow_right (n := 2) (by decide) hn11
  obtain ⟨K, hK⟩ : ∃ K, 2 ^ n = K := ⟨_, rfl⟩
  have hwp : wrap64 (2 ^ n) = (K : Int) := by rw [wrap_pow (by omega), hK]
  rw [hK] at hpw
  have HKK := Lib.hid hK
  have hmk := mk_nils K (by omega)
  clear htk htd hfl hI hk hcl hrl hok h10 hn hK h12
  generalize I.ws.length = l1 at *
  generalize I.vs.length = l2 at *
  go_enter Tryd.func29, Tryd.ntmps29
  go_wp2_with fail
  refine (HTK.out _ (HV.out.keep ((Below.refl _ _).alloc (Nat.le_refl _) _))).mono ?_
  rintro e w1 ⟨rfl, hb1⟩
  have HB1 := Lib.hid hb1
  obtain ⟨hc1, hf1⟩ := bcell hb1
  have hz1 : w.heap.size < w1.heap.size := by have := hb1.size; simp at this; omega
  clear hb1
  rcases Nat.eq_zero_or_pos n with hn0 | hn0
  · subst hn0
    have hal : Below w1.heap.size w1 (w1.alloc (.cells #[.int .i64 0] 3)) := (Below.refl _ _).alloc (Nat.le_refl _) _
    have hBw := HB1.out.trans (hal.mono HB1.out.size)
    have hints : IntsAt (w1.alloc (.cells #[.int .i64 0] 3)) (some ⟨w1.heap.size, 0, none⟩) [0] := by
      intro _
      refine ⟨_, rfl, fun j hj => ?_⟩
      obtain rfl : j = 0 := by simpa using hj
      show (w1.alloc (.cells #[.int .i64 0] 3)).cell? ⟨w1.heap.size, 0, none⟩ = _
      rw [blk_cell (heap_new _ _ _ rfl)]; rfl
    have hop := opt0 I HN.out HK.out
    have htd := HTD.out (some ⟨w1.heap.size, 0, none⟩) 1 [0] _ (HV.out.keep (keep_box hBw)) hints hop.1
    have HTT := Lib.hid htd
    have HIN := Lib.hid hints
    have HBW := Lib.hid hBw
    have HOP := Lib.hid hop
    clear hal hBw hints htd hop
    go_wp2_with fail
    refine HTT.out.mono ?_
    rintro e w5 ⟨rfl, hb5⟩
    have HB5 := Lib.hid hb5
    clear hb5 hc1 hf1
    go_wp2
    go_ret3
    exact ⟨[0], some ⟨w1.heap.size, 0, none⟩, 1, rfl, HOP.out, by decide, HIN.out.keep HB5.out, keep_box (HBW.out.trans (HB5.out.mono HBW.out.size))⟩
  · have hn0' : ((n : Int) == 0) = false := by simp; omega
    go_upto_region 7 with (fail)
    go_cut [7] (fun v7 wc => ∃ p c0 b0 : Nat, v7 = .pointer (some ⟨p, 0, none⟩) ∧ Hid (Made2 w1 K p c0 b0 wc))
    case first =>
      go_region
      all_goals go_wp2
      all_goals go_meet
      all_goals exact ⟨_, _, _, rfl, Lib.hid (made2 w1 K _ _ (by omega) (by omega) (by omega))⟩
    case rest =>
      clear hc1 hf1
      obtain ⟨p, c0, b0, rfl, HM⟩ := hcut
      have hBc : Below w.heap.size w wc := (keep_box HB1.out).trans (HM.out.bl.mono (by omega))
      have hbx : wc.heap[w.heap.size]? = some (.cells #[.int .i64 3, .int .i64 ((n + 1 : Nat) : Int), .int .i64 I.cap, .slice A1 l1 c1, .slice A2 l2 c2, .slice A3 (n + 1) c3] 25) :=
        (HM.out.bl.block _ hz1).trans (heap_keep (heap_new w _ _ rfl) HB1.out)
      have hzc : w.heap.size < wc.heap.size := heap_lt hbx
      have hcb : ∀ j, wc.cell? ⟨w.heap.size, j, none⟩ = #[.int .i64 3, .int .i64 ((n + 1 : Nat) : Int), .int .i64 I.cap, .slice A1 l1 c1, .slice A2 l2 c2, .slice A3 (n + 1) c3][j]? := fun j => blk_cell hbx j
      have hcf : ∀ j, wc.frozen? ⟨w.heap.size, j, none⟩ = false := fun j => blk_free hbx j
      have hg := HM.out.ge
      have HF := Lib.hid (HFL.out p c0 b0 wc hn0 hBc (by rw [HKK.out]; exact HM.out.wb) (by rw [HKK.out]; exact HM.out.rc) (by rw [HKK.out]; exact HM.out.rb) HM.out.hd ⟨by omega, by omega⟩)
      have HBC := Lib.hid hBc
      have HBX := Lib.hid hbx
      clear hBc hbx hg
      go_wp2_with fail
      refine HF.out.mono ?_
      rintro e wf ⟨rfl, bnd, fc, fb, cost, back, hTab, hTM, hKp⟩
      rw [HKK.out] at hTM
      have hd := HM.out.hd
      have hge := HM.out.ge
      have HTAB := Lib.hid hTab
      have HTM := Lib.hid hTM
      have HKP := Lib.hid hKp
      have hwf : wc.heap.size ≤ wf.heap.size := hKp.size
      have hpf : WB wf p c0 b0 K := hKp.heap HM.out.wb (by show ¬ (p = c0 ∨ p = b0); omega)
      have hbx : wf.heap[w.heap.size]? = some (.cells #[.int .i64 3, .int .i64 ((n + 1 : Nat) : Int), .int .i64 I.cap, .slice A1 l1 c1, .slice A2 l2 c2, .slice A3 (n + 1) c3] 25) := hKp.heap HBX.out (by show ¬ (w.heap.size = c0 ∨ w.heap.size = b0); omega)
      have hBf : Below w.heap.size w wf := HBC.out.trans (hKp.below (by omega) fun k hk => by show ¬ (k = c0 ∨ k = b0); omega)
      have HPF := Lib.hid hpf
      have HBXF := Lib.hid hbx
      have HBF := Lib.hid hBf
      have hinp := H10.out.keep hBf
      have HINP := Lib.hid hinp
      clear hTab hTM hKp hpf hbx hBf hinp hd hge hcb hcf
      have hK2 : 2 ≤ K := by
        have := HKK.out
        have : 2 ^ 1 ≤ 2 ^ n := Nat.pow_le_pow_right (by decide) hn0
        omega
      have hbds := HTAB.out.bounds (fun r c h1 h2 => by have := HOK.out r c (by omega) (by omega); unfold numOk at this; exact this) (Nat.le_refl _)
      have hbF : ∀ l, l < n → 0 ≤ cost (K - 1) l ∧ cost (K - 1) l ≤ 2048 * 2147483647 := by
        intro l hl
        have hb := hbds (K - 1) (by omega) (by have := HKK.out; omega) l hl (by rw [← HKK.out, full_bit]; simpa using hl)
        have : ((K - 1 : Nat) : Int) * 2147483647 ≤ 2048 * 2147483647 := Int.mul_le_mul_of_nonneg_right (by omega) (by decide)
        omega
      have HBF2 := Lib.hid hbF
      clear hbds hbF
      have hg1 : 0 ≤ (K : Int) - 1 := by omega
      have hg2 : (K : Int) - 1 < (K : Int) := by omega
      have hg3 : ((K : Int) - 1).toNat = K - 1 := by omega
      have hcb : ∀ j, wf.cell? ⟨w.heap.size, j, none⟩ = #[.int .i64 3, .int .i64 ((n + 1 : Nat) : Int), .int .i64 I.cap, .slice A1 l1 c1, .slice A2 l2 c2, .slice A3 (n + 1) c3][j]? := fun j => blk_cell HBXF.out j
      have hcf : ∀ j, wf.frozen? ⟨w.heap.size, j, none⟩ = false := fun j => blk_free HBXF.out j
      have q0 : wf.cell? ⟨p, 0, none⟩ = some (.slice (some ⟨c0, 0, none⟩) K K) := blk_cell HPF.out 0
      have hcF := HTM.out.rc.cell (j := K - 1) (by omega)
      obtain ⟨r, s, er, -, har, -⟩ := HTM.out.rows (K - 1) (by omega) (by omega)
      rw [er] at hcF
      have HAR := Lib.hid har
      clear er har
      go_wp2
      go_loopg [9, 44] n (fun g v9 v44 wr => ∃ c last : Nat, v9 = .int .i64 last ∧ v44 = .int .i64 c ∧ c + g = n ∧ last < n ∧ Hid (∀ c', c' < c → cost (K - 1) last + elt I (last + 1) 0 ≤ cost (K - 1) c' + elt I (c' + 1) 0) ∧ Hid (∃ q, wr = wf.drewN q))
      case atStart => exact ⟨0, 0, rfl, rfl, by omega, hn0, Lib.hid (fun c' h => absurd h (by omega)), Lib.hid ⟨0, rfl⟩⟩
      case round =>
        obtain ⟨c, last, rfl, rfl, hcg, hl, HMIN, HQ⟩ := hrel
        obtain ⟨q, hq⟩ := HQ.out
        subst hq
        by_cases cc : c < n
        · have hci : (c : Int) < (n : Int) := by omega
          have hv1 := HAR.out.cell cc
          have hv2 := HAR.out.cell hl
          obtain ⟨V1, hV1⟩ : ∃ x, cost (K - 1) c = x := ⟨_, rfl⟩
          obtain ⟨V2, hV2⟩ : ∃ x, cost (K - 1) last = x := ⟨_, rfl⟩
          have b1 := HBF2.out c cc
          have b2 := HBF2.out last hl
          rw [hV1] at hv1 b1
          rw [hV2] at hv2 b2
          obtain ⟨ad, B, cB, e1, hx, hxc, hB0⟩ := HINP.out.at_ (j := c + 1) (by rw [HCL.out]; omega)
          obtain ⟨ad2, e2, hy⟩ := hB0.at_ (j := 0) (by rw [HRL.out (c + 1) (by omega)]; omega)
          rw [HRL.out (c + 1) (by omega), add_pos _ (by omega)] at hx
          rw [HRL.out (c + 1) (by omega)] at hxc
          obtain ⟨ad', B', cB', e1', hx', hxc', hB0'⟩ := HINP.out.at_ (j := last + 1) (by rw [HCL.out]; omega)
          obtain ⟨ad2', e2', hy'⟩ := hB0'.at_ (j := 0) (by rw [HRL.out (last + 1) (by omega)]; omega)
          rw [HRL.out (last + 1) (by omega), add_pos _ (by omega)] at hx'
          rw [HRL.out (last + 1) (by omega)] at hxc'
          obtain ⟨X, hX⟩ : ∃ X, (I.cost.getD (c + 1) []).getD 0 0 = X := ⟨_, rfl⟩
          obtain ⟨X', hX'⟩ : ∃ X, (I.cost.getD (last + 1) []).getD 0 0 = X := ⟨_, rfl⟩
          rw [hX] at hy
          rw [hX'] at hy'
          have hXe : elt I (c + 1) 0 = X := hX
          have hXe' : elt I (last + 1) 0 = X' := hX'
          have hXb := HOK.out (c + 1) 0 (by omega) (by omega)
          have hXb' := HOK.out (last + 1) 0 (by omega) (by omega)
          rw [hXe] at hXb
          rw [hXe'] at hXb'
          unfold numOk at hXb hXb'
          have HE := Lib.hid (And.intro hV1 (And.intro hV2 (And.intro hXe hXe')))
          subst e1
          cases e1'
          subst e2 e2'
          have hy1 : wf.cell? ad2 = some (.int .i64 X) := hy
          have hy2 : wf.cell? ad2' = some (.int .i64 X') := hy'
          have hlt1 : ((c : Int) + 1) < (n : Int) + 1 := by omega
          have hlt2 : ((last : Int) + 1) < (n : Int) + 1 := by omega
          have hlt3 : (last : Int) < (n : Int) := by omega
          clear hV1 hV2 hX hX' hXe hXe' hB0 hB0' hy hy'
          go_wp2
          go_quiet (fail)
          all_goals go_wp2
          case _ =>
            go_roundg (gk - 1)
            case measure => omega
            case rel =>
              refine ⟨c + 1, c, by go_num, by go_num, by omega, cc, Lib.hid (fun c' h => ?_), Lib.hid ⟨_, rfl⟩⟩
              obtain ⟨e1, e2, e3, e4⟩ := HE.out
              by_cases e : c' = c
              · subst e; exact Int.le_refl _
              · have := HMIN.out c' (by omega)
                omega
          case _ =>
            go_roundg (gk - 1)
            case measure => omega
            case rel =>
              refine ⟨c + 1, last, by go_num, by go_num, by omega, hl, Lib.hid (fun c' h => ?_), Lib.hid ⟨_, rfl⟩⟩
              obtain ⟨e1, e2, e3, e4⟩ := HE.out
              by_cases e : c' = c
              · subst e; omega
              · exact HMIN.out c' (by omega)
        · have ec : n = c := by omega
          subst ec
          have hmin : ∀ c', c' < n → cost (2 ^ n - 1) last + elt I (last + 1) 0 ≤ cost (2 ^ n - 1) c' + elt I (c' + 1) 0 := by
            rw [HKK.out]; intro c' h; exact HMIN.out c' (by omega)
          have hto := tour_opt I n HN.out HK.out HTAB.out hn0 hl hmin
          rw [HKK.out] at hto
          obtain ⟨W, hW⟩ : ∃ W, wayB back (K - 1) (K - 1) last = W := ⟨_, rfl⟩
          rw [hW] at hto
          have HTO := Lib.hid hto
          have HW := Lib.hid hW
          have hfb : (K - 1).testBit last = true := by rw [← HKK.out, full_bit]; simpa using hl
          have HFB := Lib.hid hfb
          clear hmin hto hW hfb hcF q0
          go_wp2
          clear hcb hcf hwp
          go_loopg [8, 9, 11] (K - 1) (fun g v8 v9 v11 wr => ∃ (G l : Nat) (xs : List Int), v8 = .int .i64 G ∧ v9 = .int .i64 l ∧ G ≤ g ∧ G < K ∧ Hid (G ≠ 0 → l < n ∧ G.testBit l = true) ∧ Hid (xs ++ (wayB back g G l).map (fun k : Nat => ((k + 1 : Nat) : Int)) = W.map (fun k : Nat => ((k + 1 : Nat) : Int))) ∧ Hid (OwnI wr wf.heap.size v11 xs) ∧ Hid (Below wf.heap.size wf wr))
          case atStart => exact ⟨K - 1, last, [], by go_num, rfl, by omega, by omega, Lib.hid (fun _ => ⟨hl, HFB.out⟩), Lib.hid (by rw [HW.out]; rfl), Lib.hid (OwnI.nil _ _), Lib.hid (below_drewN (Below.refl _ _) _)⟩
          case round =>
            obtain ⟨G, l, xs, rfl, rfl, hGg, hGK, HGL, HXS, HOW, HB⟩ := hrel
            obtain ⟨wa, rfl⟩ : ∃ wa : World, wa = wr := ⟨_, rfl⟩
            have hxl : xs.length ≤ n := by
              have := congrArg List.length HXS.out
              rw [List.length_append, List.length_map, List.length_map, HTO.out.1] at this
              omega
            have hBs := HB.out.size
            by_cases cG : G = 0
            · subst cG
              have hw0 : wayB back gk 0 l = [] := by cases gk <;> simp [wayB]
              have hxs : xs = W.map fun k : Nat => ((k + 1 : Nat) : Int) := by
                have := HXS.out
                rw [hw0] at this
                simpa using this
              have hrev : (xs ++ [0]).reverse = (tourOf W).map fun k : Nat => (k : Int) := by
                rw [hxs]
                simp [tourOf, List.map_reverse]
              have HREV := Lib.hid hrev
              clear hw0 hxs hrev
              go_wp2_with (at_builtin; refine append_one rfl _ _ rfl _ _ xs rfl _ HOW.out 0 rfl (by omega) hBs ?_)
              intro v' w2 hown' hbel
              have hB2 := HB.out.trans hbel
              have HB2 := Lib.hid hB2
              have HRV := Lib.hid (rev_own w2 wf.heap.size v' (xs ++ [0]) hown' (by simp) (by simp; omega))
              clear hown' hbel hB2
              go_wp2_with fail
              refine HRV.out.mono ?_
              rintro e w3 ⟨rfl, ⟨A, cA, rfl, hcA, hIA⟩, hb3⟩
              rw [HREV.out] at hIA
              have hlx : (xs ++ [0]).length = ((tourOf W).map fun k : Nat => (k : Int)).length := by rw [← HREV.out, List.length_reverse]
              rw [hlx] at hcA ⊢
              have hB3 : Below w.heap.size w w3 := HBF.out.trans ((HB2.out.trans hb3).mono (by have := HBF.out.size; omega))
              have hcb3 : w3.cell? ⟨w.heap.size, 0, none⟩ = w3.cell? ⟨w.heap.size, 0, none⟩ := rfl
              have hbx3 : w3.heap[w.heap.size]? = some (.cells #[.int .i64 3, .int .i64 ((n + 1 : Nat) : Int), .int .i64 I.cap, .slice A1 l1 c1, .slice A2 l2 c2, .slice A3 (n + 1) c3] 25) := ((HB2.out.trans hb3).block _ (heap_lt HBXF.out)).trans HBXF.out
              have hcb : ∀ j, w3.cell? ⟨w.heap.size, j, none⟩ = #[.int .i64 3, .int .i64 ((n + 1 : Nat) : Int), .int .i64 I.cap, .slice A1 l1 c1, .slice A2 l2 c2, .slice A3 (n + 1) c3][j]? := fun j => blk_cell hbx3 j
              have HTT := Lib.hid (HTD.out A cA _ w3 (HV.out.keep hB3) hIA HTO.out.2.1)
              have HIA := Lib.hid hIA
              have HB3 := Lib.hid hB3
              have HCA := Lib.hid hcA
              generalize hX : ((tourOf W).map fun k : Nat => (k : Int)) = X at *
              clear hIA hlx hB3 hcb3 hbx3 hb3 hX hcA
              go_wp2_with fail
              refine HTT.out.mono ?_
              rintro e w5 ⟨rfl, hb5⟩
              have HB5 := Lib.hid hb5
              clear hb5 hcb
              go_wp2
              go_ret3
              exact ⟨X, A, cA, rfl, HTO.out.2, HCA.out, HIA.out.keep HB5.out, HB3.out.trans (HB5.out.mono HB3.out.size)⟩
            · have cG' : ((G : Int) == 0) = false := by simp; exact cG
              have cGi : ¬ (G : Int) = 0 := by omega
              obtain ⟨hln, hbit⟩ := HGL.out cG
              have hG62 : G < 4611686018427387904 := by omega
              have hcf := clr_form hG62 (show l ≤ 30 by omega) hbit
              have hclt := clr_lt hbit
              obtain ⟨R, hR⟩ : ∃ R, clr G l = R := ⟨_, rfl⟩
              rw [hR] at hcf hclt
              have HBIT := Lib.hid hbit
              have HR := Lib.hid hR
              have hlw : (l : Int) + 1 ≤ 4000 := by omega
              clear hbit hR
              go_wp2_with (at_builtin; refine append_one rfl _ _ rfl _ _ xs rfl _ HOW.out ((l : Int) + 1) rfl (by omega) hBs ?_)
              intro v' w2 hown' hbel
              have hB2 := HB.out.trans hbel
              have hk2 : Keep (fun _ => False) wf w2 := Keep.of_below hB2
              have q1 : w2.cell? ⟨p, 1, none⟩ = some (.slice (some ⟨b0, 0, none⟩) K K) := blk_cell (hk2.heap HPF.out (fun h => h)) 1
              have hbG := (HTM.out.rb.keep hk2 (fun h => h)).cell (j := G) (by omega)
              obtain ⟨r, s', -, es, -, has, -⟩ := HTM.out.rows G (by omega) hGK
              rw [es] at hbG
              have hsl := ArrN.cell (Row.keep has hk2 (fun h => h)) hln
              obtain ⟨L2, hL2⟩ : ∃ x, back G l = x := ⟨_, rfl⟩
              rw [hL2] at hsl
              have HL2 := Lib.hid hL2
              have HO2 := Lib.hid (And.intro hown' hB2)
              have hGi : (G : Int) < (K : Int) := by omega
              have hli : (l : Int) < (n : Int) := by omega
              clear hown' hbel hB2 hk2 es has hL2
              go_wp2
              go_roundg (gk - 1)
              case measure => omega
              case rel =>
                refine ⟨R, L2, xs ++ [(l : Int) + 1], rfl, rfl, by omega, by omega, Lib.hid (fun h0 => ?_), Lib.hid ?_, Lib.hid HO2.out.1, Lib.hid HO2.out.2⟩
                · have hbe := HTAB.out G (by omega) (by rw [HKK.out]; exact hGK) l hln
                  obtain ⟨⟨a, h5, h6, _, h8⟩, _⟩ := hbe.2.2 HBIT.out (by rw [HR.out]; exact h0)
                  rw [HR.out] at h6
                  have : L2 = a := by rw [← HL2.out]; exact h8
                  rw [this]; exact ⟨h5, h6⟩
                · rw [← HXS.out]
                  obtain ⟨m, rfl⟩ : ∃ m, gk = m + 1 := ⟨gk - 1, by omega⟩
                  rw [show wayB back (m + 1) G l = l :: wayB back m (clr G l) (back G l) by rw [wayB, if_neg cG], HR.out, HL2.out]
                  simp
end Go.Proofs.YtmfgffmlnfimcaaDoor
