/- The walks of set.First, Minus and Next, and what All hands out one by one. -/
import Derived.Test.YtmfgffmlnfimcaaDoorD
import Derived.Test.YtmfgffmlnfimcaaDoorL
import Derived.Deep.RegionWith
namespace Go.Proofs.YtmfgffmlnfimcaaDoor
open Go Go.RowKit Go.Shelf

/-- The library's table in its variable. -/
def TabW (w : World) : Prop := TabAt 0 Lib.deBruijn64tab w
theorem TabW.keep {w w' : World} (h : TabW w) (hb : Below w.heap.size w w') : TabW w' := fun j hj => cell_keep hb (h j hj)
theorem TabW.pos {w : World} (h : TabW w) : 0 < w.heap.size := World.block_lt_of_cell? w _ (h 0 (by decide))

/-- The least number in a set, or -1. -/
def lb (m : Nat) : Int := if m = 0 then -1 else (Lib.ctz 64 m : Nat)
/-- Without all below s. -/
def hiB (m s : Nat) : Nat := (m >>> s) <<< s
theorem hiB_bit (m s i : Nat) : (hiB m s).testBit i = (decide (s ≤ i) && m.testBit i) := by
  unfold hiB
  rw [Nat.testBit_shiftLeft, Nat.testBit_shiftRight]
  by_cases h : s ≤ i
  · simp [h, show s + (i - s) = i by omega]
  · simp [h]
theorem hiB_zero (m : Nat) : hiB m 0 = m := by simp [hiB]
theorem hiB_le (m s : Nat) : hiB m s ≤ m := by
  unfold hiB
  rw [Nat.shiftRight_eq_div_pow, Nat.shiftLeft_eq]
  exact Nat.div_mul_le_self m (2 ^ s)

theorem ctz_bit {m : Nat} (h0 : m ≠ 0) (h : m < 2 ^ 64) : Lib.ctz 64 m < 64 ∧ m.testBit (Lib.ctz 64 m) = true ∧ ∀ j, j < Lib.ctz 64 m → m.testBit j = false := by
  obtain ⟨q, hq, hk⟩ := Lib.ctzFrom_spec 64 m (by omega) h
  have e : Lib.ctz 64 m = Lib.ctzFrom 64 m := by simp [Lib.ctz, h0]
  rw [e]
  generalize Lib.ctzFrom 64 m = c at hq hk
  refine ⟨hk, ?_, fun j hj => ?_⟩
  · rw [hq, Nat.testBit_two_pow_mul]
    simp [Nat.testBit_zero, Nat.add_mod]
  · rw [hq, Nat.testBit_two_pow_mul]
    simp; omega

/-- The numbers of a set below s, rising. -/
def below (m s : Nat) : List Nat := (List.range s).filter fun j => m.testBit j
theorem below_step (m s c : Nat) (hsc : s ≤ c) (hc : m.testBit c = true) (hn : ∀ j, s ≤ j → j < c → m.testBit j = false) : below m (c + 1) = below m s ++ [c] := by
  have h : ∀ d, s + d ≤ c → below m (s + d) = below m s := by
    intro d
    induction d with
    | zero => intro _; rfl
    | succ d ih =>
      intro hd
      rw [← Nat.add_assoc]
      have h1 := ih (by omega)
      unfold below at h1 ⊢
      rw [List.range_succ, List.filter_append, h1]
      simp [hn (s + d) (by omega) (by omega)]
  have h1 := h (c - s) (by omega)
  rw [show s + (c - s) = c by omega] at h1
  unfold below at h1 ⊢
  rw [List.range_succ, List.filter_append, h1]
  simp [hc]

theorem minus_word (m s : Nat) (hm : m < 2 ^ 64) (hs : s < 64) : bits .andNot .u64 (m : Int) ((2 ^ s - 1 : Nat) : Int) = ((hiB m s : Nat) : Int) := by
  show IntKind.u64.wrap ((BitVec.ofInt 64 (m : Int) &&& ~~~BitVec.ofInt 64 ((2 ^ s - 1 : Nat) : Int)).toNat : Int) = _
  have h2 : 2 ^ s < 2 ^ 64 := Nat.pow_lt_pow_right (by decide) hs
  rw [BitVec.toNat_and, BitVec.toNat_not, BitVec.ofInt_natCast, BitVec.toNat_ofNat, BitVec.ofInt_natCast, BitVec.toNat_ofNat, Nat.mod_eq_of_lt hm, Nat.mod_eq_of_lt (by omega)]
  have e : m &&& (2 ^ 64 - 1 - (2 ^ s - 1)) = hiB m s := by
    apply Nat.eq_of_testBit_eq
    intro i
    rw [Nat.testBit_and, hiB_bit, show 2 ^ 64 - 1 - (2 ^ s - 1) = 2 ^ 64 - (2 ^ s - 1 + 1) by omega, Nat.testBit_two_pow_sub_succ (by omega), Nat.testBit_two_pow_sub_one]
    by_cases hi : i < 64
    · by_cases h : s ≤ i
      · simp [hi, h, show ¬ i < s by omega]
      · simp [hi, h, show i < s by omega]
    · have : m.testBit i = false := Nat.testBit_lt_two_pow (Nat.lt_of_lt_of_le hm (Nat.pow_le_pow_right (by decide) (by omega)))
      simp [this]
  rw [e]
  have := hiB_le m s
  rw [IntKind.wrap_u64]; omega

theorem minus_any (m s : Nat) (hm : m < 2 ^ 64) (hs : s < 64) (w : World) :
    Calls Tryd.prog 58 #[.agg #[.int .u64 m, .int .u64 0], .agg #[.int .u64 ((2 ^ s - 1 : Nat) : Int), .int .u64 0]] w fun e w' => e = .returned (.agg #[.int .u64 ((hiB m s : Nat) : Int), .int .u64 0]) ∧ Below w.heap.size w w' := by
  have h := minus_word m s hm hs
  generalize ((2 ^ s - 1 : Nat) : Int) = M at h ⊢
  have h00 : bits .andNot .u64 0 0 = 0 := by decide
  go_enter Tryd.func58, Tryd.ntmps58
  go_wp2
  refine bodyPost_ret (v := .agg #[.int .u64 ((hiB m s : Nat) : Int), .int .u64 0]) (by simp [results, Tryd.results58, go_sem]) rfl ⟨rfl, ?_⟩
  exact (((Below.refl _ _).alloc (Nat.le_refl _) _).alloc (by simp) _).alloc (by simp; omega) _

theorem idx0 (a b : Int) (w : World) : (Instr.index 56 (.agg #[.int .u64 a, .int .u64 b]) (.int .i64 0)).run Tryd.prog w = .ok (.int .u64 a) w := by
  simp [Instr.index, go_sem, run_underlying Tryd.underlying56]
theorem idx1 (a b : Int) (w : World) : (Instr.index 56 (.agg #[.int .u64 a, .int .u64 b]) (.int .i64 1)).run Tryd.prog w = .ok (.int .u64 b) w := by
  simp [Instr.index, go_sem, run_underlying Tryd.underlying56]

set_option maxRecDepth 100000 in
theorem first_any (m : Nat) (hm : m < 2 ^ 64) (w : World) (hT : TabW w) :
    Calls Tryd.prog 52 #[.agg #[.int .u64 m, .int .u64 0]] w fun e w' => e = .returned (.int .i64 (lb m)) ∧ Below w.heap.size w w' := by
  by_cases h0 : m = 0
  · subst h0
    clear hm
    have ix0 := idx0 0 0
    have ix1 := idx1 0 0
    go_enter Tryd.func52, Tryd.ntmps52
    go_wp2
    refine wp_loop_rounds 3 ?_
    rw [rounds_succ]
    go_wp2
    rw [rounds_succ]
    go_wp2
    rw [rounds_succ]
    go_wp2
    go_ret
    exact ⟨rfl, (Below.refl _ _).alloc (Nat.le_refl _) _⟩
  · have h0' : ((m : Int) == 0) = false := by simp; exact h0
    have HT := Lib.hid hT
    have hct := (ctz_bit h0 hm).1
    have hl : lb m = (Lib.ctz 64 m : Nat) := by unfold lb; rw [if_neg h0]
    have htz := fun W hW => Any7.bits_TrailingZeros64 Tryd.laysNm729 m hm W fun _ => (TabW.keep hT hW : TabW W)
    have HTZ := Lib.hid htz
    have HL := Lib.hid hl
    clear hl hT htz hm
    generalize Lib.ctz 64 m = c at *
    have ix0 := idx0 m 0
    go_enter Tryd.func52, Tryd.ntmps52
    go_wp2
    refine wp_loop_rounds 3 ?_
    rw [rounds_succ]
    go_wp2_with fail
    refine (HTZ.out _ ((Below.refl _ _).alloc (Nat.le_refl _) _)).mono ?_
    rintro e w1 ⟨rfl, rfl⟩
    go_wp2
    go_ret
    exact ⟨by rw [HL.out]; rfl, (Below.refl _ _).alloc (Nat.le_refl _) _⟩

theorem below_like {w W : World} (o : Obj) (h1 : W.os = w.os) (h2 : W.tape = w.tape) (h3 : W.output = w.output) (h4 : W.heap = (w.alloc o).heap) : Below w.heap.size w W := by
  have h := (Below.refl w.heap.size w).alloc (Nat.le_refl _) o
  exact ⟨h1, h2, h3, by rw [h4]; exact h.size, fun k hk => by rw [h4]; exact h.block k hk⟩

set_option maxHeartbeats 400000 in
/-- The least number above one. -/
theorem next_any (m i : Nat) (hm : m < 2 ^ 64) (hi : i < 63) (w : World) (hT : TabW w) :
    Calls Tryd.prog 53 #[.agg #[.int .u64 m, .int .u64 0], .int .i64 i] w fun e w' => e = .returned (.int .i64 (lb (hiB m (i + 1)))) ∧ Below w.heap.size w w' := by
  have hfl : ∀ W : World, Calls Tryd.prog 35 #[.int .i64 (IntKind.i64.wrap ((i : Int) + 1))] W fun e w' => e = .returned (.agg #[.int .u64 ((2 ^ (i + 1) - 1 : Nat) : Int), .int .u64 0]) ∧ Below W.heap.size W w' := fun W => by
    have h := full_any (i + 1) W (by omega)
    rw [show IntKind.i64.wrap ((i : Int) + 1) = ((i + 1 : Nat) : Int) by rw [IntKind.wrap_i64]; omega]
    exact h
  have hmi := fun W => minus_any m (i + 1) hm (by omega) W
  have hle : hiB m (i + 1) < 2 ^ 64 := Nat.lt_of_le_of_lt (hiB_le m (i + 1)) hm
  have hfi := fun W hW => first_any (hiB m (i + 1)) hle W (TabW.keep hT hW)
  have hbl : ∀ (W wf wm : World), Below W.heap.size W wf → Below wf.heap.size wf wm → W.heap = (w.alloc (.cells #[.int .u64 m, .int .u64 0] 56)).heap → W.os = w.os → W.tape = w.tape → W.output = w.output → Below w.heap.size w wm :=
    fun _ _ _ h1 h2 a b c d => keep_trans (keep_trans (below_like _ b c d a) h1) h2
  have HBL := Lib.hid hbl
  clear hbl
  have HFL := Lib.hid hfl
  have HMI := Lib.hid hmi
  have HFI := Lib.hid hfi
  clear hfl hmi hfi hle hm hT
  generalize ((2 ^ (i + 1) - 1 : Nat) : Int) = M at *
  generalize hiB m (i + 1) = H at *
  have h1 : ¬ (128 ≤ (i : Int)) := by omega
  have hmx : max (i : Int) (-1) = i := by omega
  go_enter Tryd.func53, Tryd.ntmps53
  go_upto_region 3 with (fail)
  go_region_with (first
    | (go_at_call 35; refine (HFL.out _).mono ?_; rintro e wf ⟨rfl, hbf⟩; have HBF := Lib.hid hbf; obtain ⟨hcf, hff⟩ := bcell hbf; clear hbf)
    | (go_at_call 58; refine (HMI.out _).mono ?_; rintro e wm ⟨rfl, hbm⟩; have HBM := Lib.hid hbm; clear hbm)
    | (go_at_call 52; refine (HFI.out _ (HBL.out _ _ _ HBF.out HBM.out rfl rfl rfl rfl)).mono ?_; rintro e wn ⟨rfl, hbn⟩; have HBN := Lib.hid hbn; clear hbn))
  all_goals go_wp2
  all_goals go_ret
  all_goals exact ⟨rfl, keep_trans (HBL.out _ _ _ HBF.out HBM.out rfl rfl rfl rfl) HBN.out⟩
end Go.Proofs.YtmfgffmlnfimcaaDoor
