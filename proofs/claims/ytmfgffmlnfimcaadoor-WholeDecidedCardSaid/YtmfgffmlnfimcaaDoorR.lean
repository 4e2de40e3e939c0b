/- What set.All hands out, one by one: its contract for a caller's loop. -/
import Derived.RangeFuncNested
import Derived.RangeFuncBound
import Derived.RangeFuncCalls
import Derived.RangeFuncLeaves
import Derived.RangeFuncFrom
import Derived.Shelf.Abstract
import Derived.Shelf.RegionOpen
import Derived.WalkKit
import Derived.OwnWalkIn
import Derived.TacticsInMore
import Derived.LoopNIn
import Derived.LoopIn
import Derived.Test.YtmfgffmlnfimcaaDoorQ
import Derived.Test.YtmfgffmlnfimcaaDoorG
namespace Go.Proofs.YtmfgffmlnfimcaaDoor
open Go Go.RowKit Go.Shelf
attribute [local go_sem] Oper.semAt_some

theorem below_none {m s : Nat} (h : hiB m s = 0) {t : Nat} (hst : s ≤ t) : below m t = below m s := by
  obtain ⟨d, rfl⟩ : ∃ d, t = s + d := ⟨t - s, by omega⟩
  induction d with
  | zero => rfl
  | succ d ih =>
    rw [← Nat.add_assoc]
    have h1 := ih (by omega)
    have h2 : m.testBit (s + d) = false := by
      have := hiB_bit m s (s + d)
      rw [h, Nat.zero_testBit] at this
      simpa using this.symm
    unfold below at h1 ⊢
    rw [List.range_succ, List.filter_append, h1]
    simp [h2]

/-- The least of what is left. -/
theorem hiB_next {m s : Nat} (hm : m < 2 ^ 63) (h : hiB m s ≠ 0) : ∃ c : Nat, lb (hiB m s) = (c : Int) ∧ s ≤ c ∧ c < 63 ∧ m.testBit c = true ∧ below m (c + 1) = below m s ++ [c] := by
  have hlt : hiB m s < 2 ^ 64 := Nat.lt_of_le_of_lt (hiB_le m s) (by omega)
  obtain ⟨h1, h2, h3⟩ := ctz_bit h hlt
  refine ⟨Lib.ctz 64 (hiB m s), by unfold lb; rw [if_neg h], ?_⟩
  generalize Lib.ctz 64 (hiB m s) = c at h1 h2 h3
  rw [hiB_bit] at h2
  simp only [Bool.and_eq_true, decide_eq_true_eq] at h2
  refine ⟨h2.1, ?_, h2.2, below_step m s c h2.1 h2.2 fun j hj hjc => ?_⟩
  · rcases Nat.lt_or_ge c 63 with h | h
    · exact h
    · have := Nat.testBit_lt_two_pow (Nat.lt_of_lt_of_le hm (Nat.pow_le_pow_right (by decide : 0 < 2) h))
      rw [this] at h2; cases h2.2
  · have := h3 j hjc
    rw [hiB_bit] at this
    simpa [hj] using this

/-- A number that is in a set. -/
abbrev InSet (m : Nat) := { i : Nat // m.testBit i = true ∧ i < 63 }

def msr (x : Int) : Nat := if x < 0 then 0 else 64 - x.toNat
theorem msr_nat (n : Nat) : msr n = 64 - n := by unfold msr; rw [if_neg (by omega)]; omega
theorem msr_neg : msr (-1) = 0 := rfl

theorem grown_of_below {w w' : World} (h : Below w.heap.size w w') : w.grownBy w' none := ⟨h.os, h.tape, h.output, h.size, fun i hi _ => h.block i hi⟩

set_option maxRecDepth 100000 in
set_option maxHeartbeats 2000000 in
theorem all_stops (n : Nat) (hn : 1 ≤ n) (Bn m : Nat) (S : Nat → Prop) (hm : m < 2 ^ 63) (w : World) (hB0 : Bn < w.heap.size) (hSB : ¬ S Bn) (hS0 : ¬ S 0) (hc : w.heap[Bn]? = some (.cells #[.int .u64 m, .int .u64 0] 56 (0, 0))) (hT : TabW w) :
    SeqStopsK Fence.wide n Tryd.prog 51 #[.pointer (some ⟨Bn, 0, none⟩)] (fun x : InSet m => #[Value.int .i64 (x.1 : Nat)]) (Keep S) (fun ys => ys.map (·.1) = below m 64) (fun _ => True) 64 w := by
  intro l J Jx W hW hJ hJx hY h0
  have hk : ∀ wr, Keep S W wr → (wr.heap[Bn]? = some (.cells #[.int .u64 m, .int .u64 0] 56 (0, 0)) ∧ TabW wr) := fun wr h =>
    ⟨h.heap ((hW.block _ hB0).trans hc) hSB, fun j hj => h.cell ((hW.cell (p := ⟨0, j, none⟩) hT.pos).trans (hT j hj)) hS0⟩
  have hfi := fun W hW => first_any m (by omega) W hW
  have hnx := fun i (hi : i < 63) W hW => next_any m i (by omega) hi W hW
  have hnz := fun s => hiB_next (s := s) hm
  have hWs := hW.size
  have HK := Lib.hid hk
  have HFI := Lib.hid hfi
  have HNX := Lib.hid hnx
  have HNZ := Lib.hid hnz
  have HJ := Lib.hid hJ
  have HJX := Lib.hid hJx
  have HY := Lib.hid hY
  clear hk hfi hnx hnz hW hT hc hm hJ hJx hY
  obtain ⟨b1, T1⟩ := HK.out W (Keep.refl _ _)
  have HT1 := Lib.hid T1
  obtain ⟨x0, x1, x2, x3, x4⟩ := blk2 b1
  clear T1 b1
  refine callsIn_of_wp Tryd.func51 rfl trivial ?_ rfl
  simp only [Tryd.ntmps51, List.size_toArray, List.length_cons, List.length_nil, Nat.reduceAdd, Nat.reduceSub, Array.replicate_succ, Array.replicate_zero, List.push_toArray, List.append_toArray, List.nil_append, List.cons_append]
  gi_wp2_with (refine ⟨trivial, ?_⟩; gi_at_call 52; refine (callsIn_wide.2 (HFI.out _ HT1.out)).mono ?_; rintro e w1 ⟨rfl, hb1⟩; have HB1 := Lib.hid hb1; clear hb1)
  gi_loopw [3] (fun i wr => ∃ (s : Nat) (ys : List (InSet m)), s ≤ 63 ∧ i = .int .i64 (lb (hiB m s)) ∧ Hid (ys.map (·.1) = below m s) ∧ Hid (J ys wr) ∧ Hid (Keep S W wr))
    (fun i _ => msr (intOf i))
  case atStart =>
    have h1 : J [] w1 := HJ.out _ _ _ none h0 (grown_of_below HB1.out) (fun r e => by cases e)
    exact ⟨0, [], by omega, by rw [hiB_zero], Lib.hid rfl, Lib.hid h1, Lib.hid (Keep.of_below HB1.out)⟩
  case round =>
    obtain ⟨s, ys, hs, rfl, HYS, HJS, HBW⟩ := hrel
    by_cases hz : hiB m s = 0
    · have hl : lb (hiB m s) = -1 := by rw [hz]; rfl
      rw [hl]
      gi_wp2
      go_end0
      exact ⟨⟨_, rfl⟩, .inl ⟨ys, by rw [HYS.out]; exact (below_none hz (by omega)).symm, HJS.out⟩⟩
    · obtain ⟨c, hl, hsc, hc63, hbit, hbel⟩ := HNZ.out s hz
      obtain ⟨x, hx⟩ : ∃ x : InSet m, x.1 = c := ⟨⟨c, hbit, hc63⟩, rfl⟩
      obtain ⟨fn, tmps, assign, body, hy, hR⟩ := HY.out ys x wr HJS.out (by
        have h1 := congrArg List.length HYS.out
        rw [List.length_map] at h1
        have h2 : (below m s).length ≤ s := by unfold below; exact Nat.le_trans (List.length_filter_le _ _) (by simp)
        omega)
      rw [hx] at hy
      have HX := Lib.hid hx
      have HL := Lib.hid hl
      have HBE := Lib.hid (And.intro hbit hbel)
      rw [hl]
      clear hl hz hbit hbel hx
      gi_wp2
      refine hR.mono ?_
      rintro e w3 (⟨rfl, hJ3, hk3⟩ | ⟨rfl, hJx3⟩)
      · have HJ3 := Lib.hid hJ3
        have hb3 := HBW.out.trans hk3
        have HB3 := Lib.hid hb3
        obtain ⟨b1, T1⟩ := HK.out w3 hb3
        have HT3 := Lib.hid T1
        clear x0 x1 x2 x3 x4
        obtain ⟨x0, x1, x2, x3, x4⟩ := blk2 b1
        clear T1 b1 hJ3 hk3 hb3 hy
        gi_wp2_with (refine ⟨trivial, ?_⟩; gi_at_call 53; refine (callsIn_wide.2 (HNX.out c hc63 _ HT3.out)).mono ?_; rintro e w4 ⟨rfl, hb4⟩; have HB4 := Lib.hid hb4; clear hb4)
        go_roundw
        case rel =>
          exact ⟨c + 1, ys ++ [x], by omega, rfl, Lib.hid (by rw [List.map_append, HYS.out, HBE.out.2, ← HX.out]; rfl), Lib.hid (HJ.out _ _ _ none HJ3.out (grown_of_below HB4.out) (fun r e => by cases e)), Lib.hid (HB3.out.trans (Keep.of_below HB4.out))⟩
        case measure =>
          show msr (lb (hiB m (c + 1))) < msr (c : Int)
          rw [msr_nat]
          by_cases hz2 : hiB m (c + 1) = 0
          · have : lb (hiB m (c + 1)) = -1 := by rw [hz2]; rfl
            rw [this, msr_neg]; omega
          · obtain ⟨d, hd, hcd, hd63, _⟩ := HNZ.out (c + 1) hz2
            rw [hd, msr_nat]
            omega
      · have HJX3 := Lib.hid hJx3
        clear hJx3
        gi_wp2
        refine bodyPost_ret (results_none rfl _ _ _) rfl ?_
        exact ⟨⟨_, rfl⟩, .inr ⟨_, trivial, HJX3.out⟩⟩
end Go.Proofs.YtmfgffmlnfimcaaDoor
