/- The walks of set.With, Full, Of and value.order. -/
import Derived.Test.YtmfgffmlnfimcaaDoorC
import Derived.RegionTactic
import Derived.BigRegion
import Derived.ChangeAlike
import Derived.Laws.BitsAllLaws
import Derived.LoopN
namespace Go.Proofs.YtmfgffmlnfimcaaDoor
open Go Go.RowKit

theorem within_yes (i : Int) (w : World) (h0 : 0 ≤ i) (h1 : i < 128) : Calls Tryd.prog 54 #[.int .i64 i] w fun e w' => e = .returned (.bool true) ∧ w = w' := by
  go_enter Tryd.func54, Tryd.ntmps54
  go_wp2
  go_ret
  exact ⟨by simp, rfl⟩

theorem or_mask (m i : Nat) (hm : m < 2 ^ 64) (hi : i < 64) : bits .or .u64 (m : Int) (IntKind.u64.wrap (2 ^ i)) = ((m ||| 2 ^ i : Nat) : Int) := by
  have h2 : 2 ^ i < 2 ^ 64 := Nat.pow_lt_pow_right (by decide) hi
  have hw : IntKind.u64.wrap ((2 : Int) ^ i) = ((2 ^ i : Nat) : Int) := by
    have e : ((2 : Int) ^ i) = ((2 ^ i : Nat) : Int) := by simp
    rw [e]
    generalize 2 ^ i = p at h2
    rw [IntKind.wrap_u64]
    omega
  rw [hw]
  exact bits_or_u64_nat m (2 ^ i) hm h2

set_option maxHeartbeats 400000 in
/-- A small set takes a small number more. -/
theorem with_any (m i : Nat) (b : Int) (w : World) (hm : m < 2 ^ 64) (hi : i < 64) :
    Calls Tryd.prog 46 #[.agg #[.int .u64 m, .int .u64 b], .int .i64 i] w fun e w' => e = .returned (.agg #[.int .u64 ((m ||| 2 ^ i : Nat) : Int), .int .u64 b]) ∧ Below w.heap.size w w' := by
  have hor := or_mask m i hm hi
  have HOR := Lib.hid hor
  clear hor hm
  have e1 : i / 64 = 0 := by omega
  have e2 : i % 64 = i := by omega
  go_enter Tryd.func46, Tryd.ntmps46
  go_wp2_with (go_at_call 54; refine (within_yes _ _ (by omega) (by omega)).mono ?_; rintro e w' ⟨rfl, rfl⟩)
  go_region
  go_wp2
  refine bodyPost_ret (v := .agg #[.int .u64 ((m ||| 2 ^ i : Nat) : Int), .int .u64 b]) (by rw [← HOR.out]; simp [results, Tryd.results46, go_sem]) rfl ⟨rfl, ?_⟩
  exact (((Below.refl _ _).alloc (Nat.le_refl _) _).alloc (by simp) _).drew

/-- The bits of the first k of some numbers. -/
def maskL (xs : List Int) : Nat → Nat
  | 0 => 0
  | k + 1 => maskL xs k ||| 2 ^ (xs.getD k 0).toNat

theorem maskL_lt (xs : List Int) : ∀ k, (∀ j, j < k → (xs.getD j 0).toNat < 64) → maskL xs k < 2 ^ 64
  | 0, _ => by unfold maskL; decide
  | k + 1, h => by
    unfold maskL
    exact Nat.or_lt_two_pow (maskL_lt xs k fun j hj => h j (by omega)) (Nat.pow_lt_pow_right (by decide) (h k (by omega)))

theorem maskL_bit (xs : List Int) (i : Nat) : ∀ k, (maskL xs k).testBit i = true ↔ ∃ j, j < k ∧ (xs.getD j 0).toNat = i
  | 0 => by simp [maskL]
  | k + 1 => by
    unfold maskL
    rw [Nat.testBit_or, Bool.or_eq_true, maskL_bit xs i k, Nat.testBit_two_pow]
    simp only [decide_eq_true_eq]
    constructor
    · rintro (⟨j, h1, h2⟩ | h)
      · exact ⟨j, by omega, h2⟩
      · exact ⟨k, by omega, h⟩
    · rintro ⟨j, h1, h2⟩
      by_cases e : j = k
      · subst e; exact .inr h2
      · exact .inl ⟨j, by omega, h2⟩

set_option maxHeartbeats 1000000 in
theorem of_any (A : Option Addr) (c : Nat) (xs : List Int) (w : World) (hb : xs.length ≤ big) (hx : ∀ j, j < xs.length → 0 ≤ xs.getD j 0 ∧ xs.getD j 0 < 64) (hA : IntsAt w A xs) :
    Calls Tryd.prog 34 #[.slice A xs.length c] w fun e w' => e = .returned (.agg #[.int .u64 ((maskL xs xs.length : Nat) : Int), .int .u64 0]) ∧ Below w.heap.size w w' := by
  have hlt : ∀ k, k ≤ xs.length → maskL xs k < 2 ^ 64 := fun k hk => maskL_lt xs k fun j hj => by have := hx j (by omega); omega
  obtain ⟨m, hm⟩ : ∃ m, xs.length = m := ⟨_, rfl⟩
  rw [hm] at hlt ⊢
  have hbm : m ≤ 17592186044000 := by unfold big at hb; omega
  have HM := Lib.hid hm
  have HX := Lib.hid hx
  have HLT := Lib.hid hlt
  have HA := Lib.hid hA
  clear hm hx hA hb hlt
  go_enter Tryd.func34, Tryd.ntmps34
  go_wp2
  go_loopg [8] m (fun g v8 wr => ∃ (k : Nat), v8 = .int .i64 k ∧ k + g = m ∧ Hid (wr.heap[w.heap.size + 1]? = some (.cells #[.int .u64 ((maskL xs k : Nat) : Int), .int .u64 0] 56 (0, 0))) ∧ Hid (wr.heap[w.heap.size]? = some (.cells #[.int .u64 0, .int .u64 0] 56 (0, 0))) ∧ Hid (Below w.heap.size w wr))
  case atStart => exact ⟨0, rfl, by omega, Lib.hid (heap_new _ _ _ (by simp)), Lib.hid (heap_old' (heap_new _ _ _ rfl) _), Lib.hid (((Below.refl _ _).alloc (Nat.le_refl _) _).alloc (by simp) _)⟩
  case round =>
    obtain ⟨k, rfl, hk, HC, HC0, HB⟩ := hrel
    obtain ⟨x0, x1, x2, x3, x4⟩ := blk2 HC0.out
    by_cases ck : k < m
    · obtain ⟨M, hM⟩ : ∃ M, maskL xs k = M := ⟨_, rfl⟩
      obtain ⟨i, hi⟩ : ∃ i : Nat, xs.getD k 0 = (i : Int) := Int.eq_ofNat_of_zero_le (HX.out k (by rw [HM.out]; exact ck)).1
      have hi64 : i < 64 := by have := (HX.out k (by rw [HM.out]; exact ck)).2; omega
      have hM64 : M < 2 ^ 64 := by rw [← hM]; exact HLT.out k (by omega)
      have hnext : maskL xs (k + 1) = M ||| 2 ^ i := by unfold maskL; rw [hM, hi]; rfl
      have HN := Lib.hid hnext
      obtain ⟨ad, e, hc⟩ := HA.out.at_ (j := k) (by rw [HM.out]; exact ck)
      subst e
      rw [hi] at hc
      replace hc := (HB.out.cell (World.block_lt_of_cell? w _ hc)).trans hc
      rw [hM] at HC
      clear hM hnext hi
      obtain ⟨y0, y1, y2, y3, y4⟩ := blk2 HC.out
      have HM64 := Lib.hid hM64
      clear hM64
      go_wp2_with fail
      refine (with_any M i 0 _ HM64.out hi64).mono ?_
      rintro e w1 ⟨rfl, hb⟩
      have HB1 := Lib.hid hb
      have HC1 := Lib.hid (heap_keep HC.out hb)
      have HC01 := Lib.hid (heap_keep HC0.out hb)
      clear hb x0 x1 x2 x3 x4 y0 y1 y2 y3 y4 hc
      obtain ⟨x0, x1, x2, x3, x4⟩ := blk2 HC01.out
      obtain ⟨y0, y1, y2, y3, y4⟩ := blk2 HC1.out
      go_wp2
      go_roundg (gk - 1)
      case measure => omega
      case rel =>
        refine ⟨k + 1, by go_num, by omega, Lib.hid ?_, Lib.hid ?_, Lib.hid ?_⟩
        · rw [HN.out]; exact heap_set (heap_set HC1.out 0 _) 1 _
        · exact heap_far (heap_far HC01.out (by simp) _) (by simp) _
        · exact ((HB.out.trans (HB1.out.mono HB.out.size)).setCell (by simp) _).setCell (by simp) _
    · obtain rfl : k = m := by omega
      obtain ⟨M, hM⟩ : ∃ M, maskL xs k = M := ⟨_, rfl⟩
      rw [hM] at HC
      have HMM := Lib.hid hM
      clear hM
      obtain ⟨y0, y1, y2, y3, y4⟩ := blk2 HC.out
      have z := (heap_lt HC0.out)
      go_wp2
      refine bodyPost_ret (v := .agg #[.int .u64 (M : Int), .int .u64 0]) ?_ rfl ⟨by rw [HMM.out], ?_⟩
      · have c0 := blk_cell (heap_set (heap_set HC0.out 0 (.int .u64 (M : Int))) 1 (.int .u64 0)) 0
        have c1 := blk_cell (heap_set (heap_set HC0.out 0 (.int .u64 (M : Int))) 1 (.int .u64 0)) 1
        simp at c0 c1
        simp [results, Tryd.results34, go_sem, c0, c1]
      · exact (HB.out.setCell (by simp) _).setCell (by simp) _

theorem full_word (n : Nat) (hn : n < 64) : IntKind.u64.wrap (IntKind.u64.wrap (2 ^ n) - 1) = ((2 ^ n - 1 : Nat) : Int) := by
  have h2 : 2 ^ n < 2 ^ 64 := Nat.pow_lt_pow_right (by decide) hn
  have h1 : 0 < 2 ^ n := Nat.pow_pos (by decide)
  have e : ((2 : Int) ^ n) = ((2 ^ n : Nat) : Int) := by simp
  rw [e]
  generalize 2 ^ n = p at h2 h1
  simp only [IntKind.wrap_u64]
  omega

set_option maxHeartbeats 1000000 in
theorem full_any (n : Nat) (w : World) (hn : n < 64) :
    Calls Tryd.prog 35 #[.int .i64 n] w fun e w' => e = .returned (.agg #[.int .u64 ((2 ^ n - 1 : Nat) : Int), .int .u64 0]) ∧ Below w.heap.size w w' := by
  by_cases h0 : n = 0
  · subst h0
    go_enter Tryd.func35, Tryd.ntmps35
    go_wp2
    refine wp_loop_rounds 3 ?_
    rw [rounds_succ]
    go_wp2
    rw [rounds_succ]
    go_wp2
    rw [rounds_succ]
    go_wp2
    exact bodyPost_ret (v := .agg #[.int .u64 0, .int .u64 0]) (by simp [results, Tryd.results35, go_sem]) rfl ⟨rfl, ((Below.refl _ _).alloc (Nat.le_refl _) _).alloc (by simp) _⟩
  · have h1 : 0 < n := by omega
    have hw := full_word n hn
    have HW := Lib.hid hw
    clear hw
    go_enter Tryd.func35, Tryd.ntmps35
    go_wp2
    refine wp_loop_rounds 3 ?_
    rw [rounds_succ]
    go_wp2
    rw [rounds_succ]
    go_wp2
    rw [rounds_succ]
    go_wp2
    refine bodyPost_ret (v := .agg #[.int .u64 (IntKind.u64.wrap (IntKind.u64.wrap (2 ^ n) - 1)), .int .u64 0]) (by simp [results, Tryd.results35, go_sem]) rfl ⟨by rw [HW.out], ((Below.refl _ _).alloc (Nat.le_refl _) _).alloc (by simp) _⟩

/-- '==' on sets. -/
theorem eqIn_set (dd : Nat) (a b c d : Int) (w : World) : (Op.equalIn (dd + 1 + 1) 56 (.agg #[.int .u64 a, .int .u64 b]) (.agg #[.int .u64 c, .int .u64 d])).run Tryd.prog w = .ok (a == c && b == d) w := by
  rw [Op.equalIn]
  have i51 := Tryd.isAgg51
  have s51 := Tryd.sizeOf51
  have u51 := Tryd.underlying51
  have hp : ∀ (x y : Value), (part 51 #[x, y] 0).run Tryd.prog w = .ok x w := by
    intro x y
    simp [part, i51, go_sem]
  have hq : ∀ (x y : Value), (part 51 #[x, y] 1).run Tryd.prog w = .ok y w := by
    intro x y
    simp [part, i51, go_sem]
  have he : ∀ (x y : Int), (Op.equalIn (dd + 1) 51 (.int .u64 x) (.int .u64 y)).run Tryd.prog w = .ok (x == y) w := fun x y => run_equalIn_int w dd 51 .u64 .u64 x y u51
  rw [Sem.run_bind, run_underlying Tryd.underlying56]
  simp only [Result.andThen_ok, Sem.run_bind, s51]
  simp only [Nat.mul_one, Std.Legacy.Range.forIn_eq_forIn_range']
  rw [show List.range' (Std.Legacy.Range.mk 0 2 1 (by decide)).start (Std.Legacy.Range.mk 0 2 1 (by decide)).size (Std.Legacy.Range.mk 0 2 1 (by decide)).step = [0, 1] from rfl]
  simp only [List.forIn_cons, List.forIn_nil, Sem.run_bind, hp, he, Result.andThen_ok]
  by_cases h1 : a = c
  · by_cases h2 : b = d
    · simp [h1, h2, hq, he]
    · simp [h1, h2, hq, he]
  · simp [h1]

theorem eq_set (a b c d : Int) (w : World) : (binOp .eql 56 (.agg #[.int .u64 a, .int .u64 b]) (.agg #[.int .u64 c, .int .u64 d])).run Tryd.prog w = .ok (.bool (a == c && b == d)) w := by
  rw [run_eql_struct, show (10000 : Nat) = 9998 + 1 + 1 from rfl, eqIn_set]
  rfl
/-- Whole numbers from 0 on, each once. -/
def PermL (n : Nat) (x : List Int) : Prop := x.length = n ∧ (∀ j, j < n → 0 ≤ x.getD j 0 ∧ x.getD j 0 < n) ∧ ∀ j k, j < n → k < n → x.getD j 0 = x.getD k 0 → j = k

end Go.Proofs.YtmfgffmlnfimcaaDoor
