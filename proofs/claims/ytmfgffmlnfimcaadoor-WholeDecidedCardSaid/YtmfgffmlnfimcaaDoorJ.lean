/- The walk of exact's grow, whole. -/
import Derived.Test.YtmfgffmlnfimcaaDoorI
namespace Go.Proofs.YtmfgffmlnfimcaaDoor
open Go Go.RowKit Go.Deep

theorem mk_ints (n : Nat) (hn : n ≤ 1000000) : ∀ W : World, (Instr.makeSlice 22 (.int .i64 ((n : Int) + 1)) (.int .i64 ((n : Int) + 1))).run Tryd.prog W = .ok (.slice (some ⟨W.heap.size, 0, none⟩) (n + 1) (n + 1)) (W.alloc (.cells (madeCells #[.int .i64 0] (n + 1)) 3)) := by
  intro W
  have h := run_make_row' (P := Tryd.prog) 22 3 (.int .i64 0) 8 Tryd.underlying22 (by kernel_rfl) rfl .i64 .i64 (n + 1) (by omega) (by omega) W
  rw [show (((n + 1 : Nat) : Int)) = (n : Int) + 1 by omega] at h
  exact h
theorem mk_bools (n : Nat) (hn : n ≤ 1000000) : ∀ W : World, (Instr.makeSlice 79 (.int .i64 ((n : Int) + 1)) (.int .i64 ((n : Int) + 1))).run Tryd.prog W = .ok (.slice (some ⟨W.heap.size, 0, none⟩) (n + 1) (n + 1)) (W.alloc (.cells (madeCells #[.bool false] (n + 1)) 4)) := by
  intro W
  have h := run_make_row' (P := Tryd.prog) 79 4 (.bool false) 1 Tryd.underlying79 (by kernel_rfl) rfl .i64 .i64 (n + 1) (by omega) (by omega) W
  rw [show (((n + 1 : Nat) : Int)) = (n : Int) + 1 by omega] at h
  exact h

/-- What holds between two steps of the search. -/
def MainR (C : Nat → Nat → Int) (n r : Nat) (w : World) (p : Nat) (A : Option Addr) (c g1 g2 g3 g4 gl gs : Nat) (g at_ : Nat) (wr : World) : Prop :=
  ∃ (row col : Nat → Int) (has from_ : Nat → Nat) (least : Nat → Int) (seen : Nat → Bool) (rk : Nat → Nat) (m : Nat), GI C n r row col has from_ least seen at_ rk m ∧ MG w p A c n g1 g2 g3 g4 gl gs row col has from_ least seen wr ∧
    (∀ c, c ≤ n → -9000000000000000000 ≤ least c ∧ least c ≤ 9000000000000000000) ∧ left n seen = g

set_option maxRecDepth 100000 in
set_option maxHeartbeats 4000000 in
theorem grow_any (n p : Nat) (A : Option Addr) (c g1 g2 g3 g4 : Nat) (xss : List (List Int)) (row col : Nat → Int) (has from_ : Nat → Nat) (r : Nat) (w0 w : World) (hn : n ≤ 24) (hr1 : 1 ≤ r) (hrn : r ≤ n)
    (hl : xss.length = n) (hll : ∀ i, i < n → (xss.getD i []).length = n) (hA : RowsAt w0 A xss) (hB : Below w0.heap.size w0 w) (hge : w0.heap.size ≤ g1 ∧ w0.heap.size ≤ g2 ∧ w0.heap.size ≤ g3 ∧ w0.heap.size ≤ g4)
    (hC : Small (fun a b => (xss.getD a []).getD b 0) n) (hH : Hung (fun a b => (xss.getD a []).getD b 0) n (r - 1) row col has)
    (hp : PB w p A c n g1 g2 g3 g4) (ha1 : Arr w g1 (n + 1) row) (ha2 : Arr w g2 (n + 1) col) (ha3 : ArrN w g3 (n + 1) has) (ha4 : ArrN w g4 (n + 1) from_)
    (hd : p ≠ g1 ∧ p ≠ g2 ∧ p ≠ g3 ∧ p ≠ g4 ∧ g1 ≠ g2 ∧ g1 ≠ g3 ∧ g1 ≠ g4 ∧ g2 ≠ g3 ∧ g2 ≠ g4 ∧ g3 ≠ g4) :
    Calls Tryd.prog 38 #[.pointer (some ⟨p, 0, none⟩), .int .i64 r] w (Grown (fun a b => (xss.getD a []).getD b 0) n r p A c g1 g2 g3 g4 w) := by
  have hps := heap_lt hp
  have hs1 := ha1.lt
  have hs2 := ha2.lt
  have hs3 := ha3.lt
  have hs4 := ha4.lt
  obtain ⟨d1, d2, d3, d4, d5, d6, d7, d8, d9, d10⟩ := hd
  have hap : Apart p g1 g2 g3 g4 w.heap.size (w.heap.size + 1) := ⟨d1, d2, d3, d4, by clear d1 d2 d3 d4 d5 d6 d7 d8 d9 d10; omega, by clear d1 d2 d3 d4 d5 d6 d7 d8 d9 d10; omega, d5, d6, d7, by clear d1 d2 d3 d4 d5 d6 d7 d8 d9 d10; omega, by clear d1 d2 d3 d4 d5 d6 d7 d8 d9 d10; omega, d8, d9, by clear d1 d2 d3 d4 d5 d6 d7 d8 d9 d10; omega, by clear d1 d2 d3 d4 d5 d6 d7 d8 d9 d10; omega, d10, by clear d1 d2 d3 d4 d5 d6 d7 d8 d9 d10; omega, by clear d1 d2 d3 d4 d5 d6 d7 d8 d9 d10; omega, by clear d1 d2 d3 d4 d5 d6 d7 d8 d9 d10; omega, by clear d1 d2 d3 d4 d5 d6 d7 d8 d9 d10; omega, by clear d1 d2 d3 d4 d5 d6 d7 d8 d9 d10; omega⟩
  obtain ⟨hq0, hq1, hq2, hq3, hq4⟩ := hp.cells
  have hc30 := ArrN.cell ha3 (show 0 < n + 1 by omega)
  have hf30 := Row.free ha3 0
  have HAP := Lib.hid hap
  have HP := Lib.hid hp
  have HA1 := Lib.hid ha1
  have HA2 := Lib.hid ha2
  have HA3 := Lib.hid ha3
  have HA4 := Lib.hid ha4
  have HH := Lib.hid hH
  have HC := Lib.hid hC
  have HL := Lib.hid hl
  have HLL := Lib.hid hll
  have HA := Lib.hid hA
  have HB := Lib.hid hB
  have HGE := Lib.hid hge
  have hmk := mk_ints n (by omega)
  have hmb := mk_bools n (by omega)
  clear hap hp ha1 ha2 ha3 ha4 hH hC hl hll hA hB hge d1 d2 d3 d4 d5 d6 d7 d8 d9 d10
  go_enter Tryd.func38, Tryd.ntmps38
  go_wp2
  go_loopg [35] (n + 1) (fun g v35 wr => ∃ k : Nat, v35 = .int .i64 k ∧ k + g = n + 1 ∧ Hid (MG w p A c n g1 g2 g3 g4 w.heap.size (w.heap.size + 1) row col (upd has 0 r) from_ (fun j => if j < k then 1152921504606846976 else 0) (fun _ => false) wr))
  case atStart =>
    refine ⟨0, rfl, by omega, Lib.hid ⟨?_, ?_, ?_, ?_, ?_, ?_, ?_, ?_⟩⟩
    · exact heap_old' (heap_old' (heap_far HP.out (by show p ≠ g3; exact HAP.out.2.2.1) _) _) _
    · exact ((HA1.out.far (by show g1 ≠ g3; exact HAP.out.2.2.2.2.2.2.2.1) _).alloc _).alloc _
    · exact ((HA2.out.far (by show g2 ≠ g3; exact HAP.out.2.2.2.2.2.2.2.2.2.2.2.1) _).alloc _).alloc _
    · exact ((ArrN.set HA3.out 0 r).alloc _).alloc _
    · exact ((HA4.out.far (by show g4 ≠ g3; exact HAP.out.2.2.2.2.2.2.2.2.2.2.2.2.2.2.2.1.symm) _).alloc _).alloc _
    · refine Row.alloc ?_ _
      have h := Row.made (w.setCell ⟨g3, 0, none⟩ (.int .i64 r)) 3 (.int .i64 0) (n + 1)
      simpa [Arr] using h
    · have h := Row.made ((w.setCell ⟨g3, 0, none⟩ (.int .i64 r)).alloc (.cells (madeCells #[.int .i64 0] (n + 1)) 3)) 4 (.bool false) (n + 1)
      simpa [ArrB] using h
    · exact (((Keep.refl _ _).setCell (p := ⟨g3, 0, none⟩) (.inr (.inr (.inl rfl))) _).alloc _).alloc _
  case round =>
    obtain ⟨k, rfl, hk, HM⟩ := hrel
    by_cases ck : k < n + 1
    · have hci := Arr.cell HM.out.al ck
      have hfi := Row.free HM.out.al k
      go_wp2
      go_roundg (gk - 1)
      case measure => omega
      case rel =>
        refine ⟨k + 1, by go_num, by omega, Lib.hid ((HM.out.setL HAP.out (Nat.le_refl _) k 1152921504606846976).congr (fun _ _ => rfl) (fun _ _ => rfl) (fun _ _ => rfl) (fun j hj => ?_))⟩
        by_cases e : j = k
        · subst e; rw [upd_same, if_pos (by omega)]
        · rw [upd_other _ e]
          by_cases e2 : j < k
          · rw [if_pos e2, if_pos (by omega)]
          · rw [if_neg e2, if_neg (by omega)]
    · obtain rfl : k = n + 1 := by omega
      go_wp2
      go_loopg [9] (left n (fun _ => false)).toNat (fun g v9 wr => ∃ a : Nat, v9 = .int .i64 a ∧ Hid (MainR (fun a b => (xss.getD a []).getD b 0) n r w p A c g1 g2 g3 g4 w.heap.size (w.heap.size + 1) g a wr))
      case atStart =>
        refine ⟨0, rfl, Lib.hid ⟨row, col, upd has 0 r, from_, fun _ => 1152921504606846976, fun _ => false, _, _, GI.start HH.out hr1 hrn from_, HM.out.congr (fun _ _ => rfl) (fun _ _ => rfl) (fun _ _ => rfl) (fun j hj => by rw [if_pos hj]), fun c _ => by dsimp only; omega, ?_⟩⟩
        have := left_nonneg n (fun _ => false)
        omega
      case round =>
        clear HM hk ck
        obtain ⟨a, rfl, HMR⟩ := hrel
        obtain ⟨row, col, has, from_, least, seen, rk, m, hGI, hMG, hlb, hleft⟩ := HMR.out
        have HG := Lib.hid hGI
        have HM := Lib.hid hMG
        have HLB := Lib.hid hlb
        have HLF := Lib.hid hleft
        have han := hGI.atn
        obtain ⟨hq0, hq1, hq2, hq3, hq4⟩ := hMG.pb.cells
        have hca := ArrN.cell hMG.a3 (show a < n + 1 by omega)
        have hcs := ArrB.cell hMG.a5 (show a < n + 1 by omega)
        have hfs := Row.free hMG.a5 a
        have hi1 : (a : Int) < (n : Int) + 1 := by omega
        by_cases hz : has a = 0
        · have hz' : (((has a : Nat) : Int) != 0) = false := by simp [hz]
          have HZ := Lib.hid hz
          clear hGI hMG hlb hleft hz
          go_wp2
          go_ret
          obtain ⟨k, h', hT, hH, hb⟩ := HG.out.finish HZ.out
          exact ⟨a, row, col, has, from_, k, h', rfl, HM.out.pb, HM.out.a1, HM.out.a2, HM.out.a3, HM.out.a4, HM.out.k, hT, hH, hb⟩
        · have hz' : (((has a : Nat) : Int) != 0) = true := by simp [hz]
          have HZ := Lib.hid hz
          obtain ⟨R, hR⟩ : ∃ R, has a = R := ⟨_, rfl⟩
          have hRn : R ≤ n := by rw [← hR]; exact hGI.hasn a han
          have hR1 : 1 ≤ R := by omega
          rw [hR] at hca hz'
          have HRR := Lib.hid hR
          clear hGI hMG hlb hleft hz hR
          have hbd := HG.out.bounds HC.out
          have HBD := Lib.hid hbd
          have hbA : Below w0.heap.size w0 w := HB.out
          clear hbd hbA
          go_wp2
          go_loopg [11, 12, 13] n (fun g v11 v12 v13 wq => ∃ (cc : Nat) (Bs : Int) (X : Nat), v11 = .int .i64 Bs ∧ v12 = .int .i64 X ∧ v13 = .int .i64 cc ∧ 1 ≤ cc ∧ cc + g = n + 1 ∧ X ≤ n ∧
            Hid (scB (sl (fun a b => (xss.getD a []).getD b 0) row col R) (upd seen a true) least (cc - 1) = (Bs, X)) ∧
            Hid (MG w p A c n g1 g2 g3 g4 w.heap.size (w.heap.size + 1) row col has (fromS (cc - 1) (sl (fun a b => (xss.getD a []).getD b 0) row col R) (upd seen a true) least from_ a) (leastS (cc - 1) (sl (fun a b => (xss.getD a []).getD b 0) row col R) (upd seen a true) least) (upd seen a true) wq))
          case atStart => exact ⟨1, _, 0, rfl, rfl, rfl, by omega, by omega, by omega, Lib.hid rfl, Lib.hid ((HM.out.setS HAP.out (by omega) a true).congr (fun _ _ => rfl) (fun _ _ => rfl) (fun j _ => (fromS_zero _ _ _ _ _ j).symm) (fun j _ => (leastS_zero _ _ _ j).symm))⟩
          case round =>
            clear hq0 hq1 hq2 hq3 hq4 hca hcs hfs
            obtain ⟨cc, Bs, X, rfl, rfl, rfl, hc1, hcg, hX, HSB, HMQ⟩ := hrel
            by_cases ccn : cc ≤ n
            · have hcsn := ArrB.cell HMQ.out.a5 (show cc < n + 1 by omega)
              have hi2 : (cc : Int) < (n : Int) + 1 := by omega
              have hi3 : (cc : Int) ≤ (n : Int) := by omega
              rcases hsn : upd seen a true cc with _ | _
              · rw [hsn] at hcsn
                have HSN := Lib.hid hsn
                clear hsn
                have hbw : Below w0.heap.size w0 wr := HB.out.trans (HMQ.out.k.below HB.out.size (fun k hk hg => by
                  have hge := HGE.out
                  rcases hg with h | h | h | h <;> omega))
                have hb1 := HC.out (R - 1) (cc - 1) (by omega) (by omega)
                have hcall := fun W hp hA h1 h2 => slack_any n p A c g1 g2 g3 g4 xss row col R cc W hn hR1 hRn hc1 ccn hp HL.out HLL.out hA h1 h2 hb1 (HBD.out.1 R hR1 hRn) (HBD.out.2 cc hc1 ccn)
                obtain ⟨Sv, hSv⟩ : ∃ S, sl (fun a b => (xss.getD a []).getD b 0) row col R cc = S := ⟨_, rfl⟩
                rw [hSv] at hcall
                have HS := Lib.hid hSv
                have HCALL := Lib.hid hcall
                obtain ⟨L, hL⟩ : ∃ L, least cc = L := ⟨_, rfl⟩
                have hcl := Arr.cell HMQ.out.al (show cc < n + 1 by omega)
                rw [leastS_od hc1, hL] at hcl
                have HLL2 := Lib.hid hL
                have hfl := Row.free HMQ.out.al cc
                have hcf4 := ArrN.cell HMQ.out.a4 (show cc < n + 1 by omega)
                have hff4 := Row.free HMQ.out.a4 cc
                have HBW := Lib.hid hbw
                have hpb4 := HMQ.out.pb.cells.2.2.2.2
                clear hbw hb1 hcall hSv hL
                go_wp2_with fail
                refine (HCALL.out _ HMQ.out.pb (HA.out.keep HBW.out) (HMQ.out.a1.cell (by omega)) (HMQ.out.a2.cell (by omega))).mono ?_
                rintro e w' ⟨rfl, q, rfl⟩
                by_cases cSL : Sv < L
                · by_cases cSB : Sv < Bs
                  · go_wp2
                    go_roundg (gk - 1)
                    case measure => omega
                    case rel =>
                      have e0 : upd seen a true cc = false ∧ sl (fun a b => (xss.getD a []).getD b 0) row col R cc < least cc := ⟨HSN.out, by rw [HS.out, HLL2.out]; exact cSL⟩
                      have e1 : scL (sl (fun a b => (xss.getD a []).getD b 0) row col R) (upd seen a true) least cc = Sv := by unfold scL; rw [if_pos e0, HS.out]
                      refine ⟨cc + 1, Sv, cc, rfl, rfl, by go_num, by omega, by omega, ccn, Lib.hid ?_, Lib.hid ((((HMQ.out.drewN q).setL HAP.out (Nat.le_refl _) cc Sv).set4 HAP.out cc a).congr (fun _ _ => rfl) (fun _ _ => rfl) (fun j _ => ?_) (fun j _ => ?_))⟩
                      · rw [Nat.add_sub_cancel, scB_nx hc1 _ _ _ HSB.out, if_pos ⟨HSN.out, by rw [e1]; exact cSB⟩, e1]
                      · rw [Nat.add_sub_cancel, fromS_nx hc1]; unfold scF; rw [if_pos e0]
                      · rw [Nat.add_sub_cancel, leastS_nx hc1, e1]
                  · go_wp2
                    go_roundg (gk - 1)
                    case measure => omega
                    case rel =>
                      have e0 : upd seen a true cc = false ∧ sl (fun a b => (xss.getD a []).getD b 0) row col R cc < least cc := ⟨HSN.out, by rw [HS.out, HLL2.out]; exact cSL⟩
                      have e1 : scL (sl (fun a b => (xss.getD a []).getD b 0) row col R) (upd seen a true) least cc = Sv := by unfold scL; rw [if_pos e0, HS.out]
                      refine ⟨cc + 1, Bs, X, rfl, rfl, by go_num, by omega, by omega, hX, Lib.hid ?_, Lib.hid ((((HMQ.out.drewN q).setL HAP.out (Nat.le_refl _) cc Sv).set4 HAP.out cc a).congr (fun _ _ => rfl) (fun _ _ => rfl) (fun j _ => ?_) (fun j _ => ?_))⟩
                      · rw [Nat.add_sub_cancel, scB_nx hc1 _ _ _ HSB.out, if_neg (by rw [e1]; exact fun h => Int.not_lt.2 (by omega) h.2)]
                      · rw [Nat.add_sub_cancel, fromS_nx hc1]; unfold scF; rw [if_pos e0]
                      · rw [Nat.add_sub_cancel, leastS_nx hc1, e1]
                · have e0 : ¬ (upd seen a true cc = false ∧ sl (fun a b => (xss.getD a []).getD b 0) row col R cc < least cc) := fun h => by have := h.2; rw [HS.out, HLL2.out] at this; exact cSL this
                  have e1 : scL (sl (fun a b => (xss.getD a []).getD b 0) row col R) (upd seen a true) least cc = L := by unfold scL; rw [if_neg e0, HLL2.out]
                  have E0 := Lib.hid e0
                  have E1 := Lib.hid e1
                  clear e0 e1
                  by_cases cSB : L < Bs
                  · go_wp2
                    go_roundg (gk - 1)
                    case measure => omega
                    case rel =>
                      refine ⟨cc + 1, L, cc, rfl, rfl, by go_num, by omega, by omega, ccn, Lib.hid ?_, Lib.hid ((HMQ.out.drewN q).congr (fun _ _ => rfl) (fun _ _ => rfl) (fun j _ => ?_) (fun j _ => ?_))⟩
                      · rw [Nat.add_sub_cancel, scB_nx hc1 _ _ _ HSB.out, if_pos ⟨HSN.out, by rw [E1.out]; exact cSB⟩, E1.out]
                      · rw [Nat.add_sub_cancel, fromS_nx hc1, upd_self]
                        rw [fromS_od hc1]; unfold scF; rw [if_neg E0.out]
                      · rw [Nat.add_sub_cancel, leastS_nx hc1, upd_self]
                        rw [leastS_od hc1, E1.out, HLL2.out]
                  · go_wp2
                    go_roundg (gk - 1)
                    case measure => omega
                    case rel =>
                      refine ⟨cc + 1, Bs, X, rfl, rfl, by go_num, by omega, by omega, hX, Lib.hid ?_, Lib.hid ((HMQ.out.drewN q).congr (fun _ _ => rfl) (fun _ _ => rfl) (fun j _ => ?_) (fun j _ => ?_))⟩
                      · rw [Nat.add_sub_cancel, scB_nx hc1 _ _ _ HSB.out, if_neg (by rw [E1.out]; exact fun h => Int.not_lt.2 (by omega) h.2)]
                      · rw [Nat.add_sub_cancel, fromS_nx hc1, upd_self]
                        rw [fromS_od hc1]; unfold scF; rw [if_neg E0.out]
                      · rw [Nat.add_sub_cancel, leastS_nx hc1, upd_self]
                        rw [leastS_od hc1, E1.out, HLL2.out]
              · rw [hsn] at hcsn
                have HSN := Lib.hid hsn
                clear hsn
                go_wp2
                go_roundg (gk - 1)
                case measure => omega
                case rel =>
                  have e0 : ¬ (upd seen a true cc = false ∧ sl (fun a b => (xss.getD a []).getD b 0) row col R cc < least cc) := fun h => by rw [HSN.out] at h; exact absurd h.1 (by simp)
                  refine ⟨cc + 1, Bs, X, rfl, rfl, by go_num, by omega, by omega, hX, Lib.hid ?_, Lib.hid (HMQ.out.congr (fun _ _ => rfl) (fun _ _ => rfl) (fun j _ => ?_) (fun j _ => ?_))⟩
                  · rw [Nat.add_sub_cancel, scB_nx hc1 _ _ _ HSB.out, if_neg]
                    intro h; rw [HSN.out] at h; exact absurd h.1 (by simp)
                  · rw [Nat.add_sub_cancel, fromS_nx hc1, upd_self]
                    rw [fromS_od hc1]; unfold scF; rw [if_neg e0]
                  · rw [Nat.add_sub_cancel, leastS_nx hc1, upd_self]
                    rw [leastS_od hc1]; unfold scL; rw [if_neg e0]
            · have hcc : cc = n + 1 := by omega
              have HCC := Lib.hid hcc
              have hi3 : ¬ (cc : Int) ≤ (n : Int) := by omega
              clear hcc
              have hsb := HSB.out
              have hmq := HMQ.out
              rw [HCC.out, Nat.add_sub_cancel] at hsb hmq
              have HSB2 := Lib.hid hsb
              have HMQ2 := Lib.hid hmq
              have hgs := HG.out.stepw HC.out HZ.out HLB.out
              dsimp only at hgs
              rw [HRR.out, hsb] at hgs
              dsimp only at hgs
              have hlf := left_step (n := n) (seen := seen) (at_ := a) han HG.out.unseen
              have hln := left_nonneg n (upd seen a true)
              rw [HLF.out] at hlf
              have HGS := Lib.hid hgs
              have HLF2 := Lib.hid hlf
              have HLN := Lib.hid hln
              clear hsb hmq hgs HSB HMQ hcg hi3 hc1 hlf hln
              go_wp2
              go_loopg [103] (n + 1) (fun g v103 wq => ∃ k : Nat, v103 = .int .i64 k ∧ k + g = n + 1 ∧
                Hid (MG w p A c n g1 g2 g3 g4 w.heap.size (w.heap.size + 1) (rowTo has (upd seen a true) Bs addw row k) (colK (upd seen a true) Bs col k) has (fromS n (sl (fun a b => (xss.getD a []).getD b 0) row col R) (upd seen a true) least from_ a) (leastK (upd seen a true) Bs (leastS n (sl (fun a b => (xss.getD a []).getD b 0) row col R) (upd seen a true) least) k) (upd seen a true) wq))
              case atStart => exact ⟨0, rfl, by omega, Lib.hid (HMQ2.out.congr (fun _ _ => rfl) (fun j _ => by unfold colK; rw [if_neg (by omega)]) (fun _ _ => rfl) (fun j _ => by unfold leastK; rw [if_neg (by omega)]))⟩
              case round =>
                clear HMQ2
                obtain ⟨k, rfl, hkg, HMU⟩ := hrel
                by_cases ckn : k < n + 1
                · have hcsn := ArrB.cell HMU.out.a5 ckn
                  have hi4 : (k : Int) < (n : Int) + 1 := by omega
                  obtain ⟨hz0, hz1, hz2, hz3, hz4⟩ := HMU.out.pb.cells
                  rcases hsn : upd seen a true k with _ | _
                  · rw [hsn] at hcsn
                    have HSN := Lib.hid hsn
                    clear hsn
                    have hcl := Arr.cell HMU.out.al ckn
                    rw [leastK_old] at hcl
                    have hfl := Row.free HMU.out.al k
                    obtain ⟨L, hL⟩ : ∃ L, leastS n (sl (fun a b => (xss.getD a []).getD b 0) row col R) (upd seen a true) least k = L := ⟨_, rfl⟩
                    rw [hL] at hcl
                    have HLL2 := Lib.hid hL
                    clear hL
                    go_wp2
                    go_roundg (gk - 1)
                    case measure => omega
                    case rel =>
                      refine ⟨k + 1, by go_num, by omega, Lib.hid ((HMU.out.setL HAP.out (Nat.le_refl _) k (wrap64 (L - Bs))).congr (fun j _ => ?_) (fun j _ => ?_) (fun _ _ => rfl) (fun j _ => ?_))⟩
                      · rw [rowTo, if_neg (by rw [HSN.out]; simp)]
                      · rw [colK_next, upd_self]
                        rw [colK_old]; unfold colS; rw [if_neg (by rw [HSN.out]; simp)]
                      · rw [leastK_next]; unfold leastU; rw [if_neg (by rw [HSN.out]; simp), HLL2.out]; rfl
                  · rw [hsn] at hcsn
                    have HSN := Lib.hid hsn
                    clear hsn
                    have hch := ArrN.cell HMU.out.a3 ckn
                    obtain ⟨h, hh⟩ : ∃ h, has k = h := ⟨_, rfl⟩
                    have hhn : h ≤ n := by rw [← hh]; exact HG.out.hasn k (by omega)
                    rw [hh] at hch
                    have HHH := Lib.hid hh
                    have hcr := Arr.cell HMU.out.a1 (show h < n + 1 by omega)
                    obtain ⟨Rv, hRv⟩ : ∃ x, rowTo has (upd seen a true) Bs addw row k h = x := ⟨_, rfl⟩
                    rw [hRv] at hcr
                    have HRV := Lib.hid hRv
                    have hcc2 := Arr.cell HMU.out.a2 ckn
                    rw [colK_old] at hcc2
                    obtain ⟨Cv, hCv⟩ : ∃ x, col k = x := ⟨_, rfl⟩
                    rw [hCv] at hcc2
                    have HCV := Lib.hid hCv
                    have hfr := Row.free HMU.out.a1 h
                    have hfc := Row.free HMU.out.a2 k
                    have hi5 : (h : Int) < (n : Int) + 1 := by omega
                    have hn12 : g2 ≠ g1 := HAP.out.2.2.2.2.2.2.1.symm
                    have hn1p : p ≠ g1 := HAP.out.1
                    have hn2p : p ≠ g2 := HAP.out.2.1
                    clear hh hRv hCv
                    go_wp2
                    go_region
                    all_goals go_wp2
                    go_roundg (gk - 1)
                    case measure => omega
                    case rel =>
                      refine ⟨k + 1, by go_num, by omega, Lib.hid ((((HMU.out.set1 HAP.out h (wrap64 (Rv + Bs))).drew).set2 HAP.out k (wrap64 (Cv - Bs))).congr (fun j _ => ?_) (fun j _ => ?_) (fun _ _ => rfl) (fun j _ => ?_))⟩
                      · rw [rowTo, if_pos HSN.out, HHH.out, HRV.out]; rfl
                      · rw [colK_next]; unfold colS; rw [if_pos HSN.out, HCV.out]; rfl
                      · rw [leastK_next, upd_self]
                        rw [leastK_old]; unfold leastU; rw [if_pos HSN.out]
                · have hkn : k = n + 1 := by omega
                  have HKN := Lib.hid hkn
                  have hi4 : ¬ (k : Int) < (n : Int) + 1 := by omega
                  clear hkn ckn
                  go_wp2
                  go_roundg (left n (upd seen a true)).toNat
                  case measure => have := HLF2.out; have := HLN.out; omega
                  case rel =>
                    have h0 : upd seen a true 0 = true := by
                      by_cases e : a = 0
                      · subst e; exact upd_same _ _ _
                      · rw [upd_other _ (fun h => e h.symm)]; exact (HG.out.next e).1
                    have hmu := HMU.out
                    rw [HKN.out] at hmu
                    refine ⟨X, rfl, Lib.hid ⟨_, _, _, _, _, _, _, _, HGS.out, hmu.congr (fun _ _ => rfl) (fun j hj => ?_) (fun _ _ => rfl) (fun j hj => ?_), ?_, ?_⟩⟩
                    · unfold colK; rw [if_pos hj]
                    · unfold leastK; rw [if_pos hj]
                    · refine least_bounds HC.out HGS.out h0 least (fun c hc hs => ?_) HLB.out
                      unfold leastU
                      rw [if_pos hs]
                      unfold leastS
                      split
                      · unfold scL
                        rw [if_neg]
                        intro hh; rw [hs] at hh; exact absurd hh.1 (by simp)
                      · rfl
                    · have := HLN.out; omega
end Go.Proofs.YtmfgffmlnfimcaaDoor
