/- The walk of WholeDecided's closure. -/
import Derived.Test.YtmfgffmlnfimcaaDoorM8
import Derived.Test.YtmfgffmlnfimcaaDoorZ
namespace Go.Proofs.YtmfgffmlnfimcaaDoor
open Go Go.RowKit Go.Shelf Go.Sort Go.Deep

/-- What the closure asks of best. -/
def BestOf (P : Int → Prop) (w : World) (v : Value) : Prop := ∀ W, Below w.heap.size w W → Calls Tryd.prog 10 #[v] W fun en w' => (∃ d A m c, en = .returned (.tuple #[.int .i64 d, .slice A m c, .bool true]) ∧ P d) ∧ Below W.heap.size W w'

set_option maxHeartbeats 1000000 in
theorem decide_any (K n cap : Int) (A1 A2 A3 : Option Addr) (l1 c1 l2 c2 l3 c3 : Nat) (e l : Int) (w : World) (pb pl : Nat) (hb : w.heap[pb]? = some (.cells #[.bool true] 4 (0, 0))) (hl : w.heap[pl]? = some (.cells #[.int .i64 l] 3 (0, 0)))
    (P : Int → Prop) (hP : ∀ d, P d → 0 ≤ d ∧ d ≤ 1099511627776) (he : 0 ≤ e ∧ e ≤ 2147483647) (hll : -1 ≤ l ∧ l ≤ 2199023255552)
    (hbest : BestOf P w (.agg #[.int .i64 K, .int .i64 n, .int .i64 cap, .slice A1 l1 c1, .slice A2 l2 c2, .slice A3 l3 c3])) :
    Calls Tryd.prog 11 #[.agg #[.int .i64 K, .int .i64 n, .int .i64 cap, .slice A1 l1 c1, .slice A2 l2 c2, .slice A3 l3 c3], .int .i64 e, .pointer (some ⟨pb, 0, none⟩), .pointer (some ⟨pl, 0, none⟩)] w fun en w' => en = .returned (.tuple #[]) ∧ ∃ d, P d ∧
      w'.heap[pb]? = some (.cells #[.bool true] 4 (0, 0)) ∧ w'.heap[pl]? = some (.cells #[.int .i64 (leastOf l (d + e))] 3 (0, 0)) ∧ Keep (fun k => k = pb ∨ k = pl) w w' := by
  have HBE := Lib.hid hbest
  have HPB := Lib.hid hb
  have HPL := Lib.hid hl
  have hpbl := heap_lt hb
  have hpll := heap_lt hl
  have HP := Lib.hid hP
  have hne : pb ≠ pl := fun e => by subst e; rw [hb] at hl; cases hl
  have HNE := Lib.hid hne
  clear hbest hb hl hP hne
  go_enter Tryd.func11, Tryd.ntmps11
  go_wp2_with fail
  refine (HBE.out _ ((Below.refl _ _).alloc (Nat.le_refl _) _)).mono ?_
  rintro en w1 ⟨⟨d, A, m, c, rfl, hd⟩, hb1⟩
  have HPD := Lib.hid hd
  have HB1 := Lib.hid (keep_box hb1)
  have hpb := heap_keep HPB.out HB1.out
  have hpl := heap_keep HPL.out HB1.out
  have HPB1 := Lib.hid hpb
  have HPL1 := Lib.hid hpl
  have b0 := blk_cell hpb 0
  have b1 := blk_free hpb 0
  have l0 := blk_cell hpl 0
  have l1' := blk_free hpl 0
  have hpd := HP.out d hd
  have hwr : IntKind.i64.wrap (d + e) = d + e := by rw [IntKind.wrap_i64]; omega
  have hpl2 := heap_far hpl (p := ⟨pb, 0, none⟩) (fun e => HNE.out e.symm) (.bool true)
  have hpb2 := heap_set hpb 0 (.bool true)
  have hk2 : Keep (fun k => k = pb ∨ k = pl) w (w1.setCell ⟨pb, 0, none⟩ (.bool true)) := (Keep.of_below HB1.out).setCell (p := ⟨pb, 0, none⟩) (.inl rfl) (.bool true)
  have l2' := blk_cell hpl2 0
  have l3' := blk_free hpl2 0
  have HP2 := Lib.hid (And.intro hpb2 (And.intro hpl2 hk2))
  clear hb1 hd hpb hpl hpl2 hpb2 hk2 l0 l1'
  by_cases q1 : l < 0
  · have HLE := Lib.hid (show leastOf l (d + e) = d + e by unfold leastOf; rw [if_pos (.inl q1)])
    go_wp2
    go_end0
    obtain ⟨hpb2, hpl2, hk2⟩ := HP2.out
    refine ⟨rfl, d, HPD.out, heap_far hpb2 HNE.out _, ?_, hk2.setCell (p := ⟨pl, 0, none⟩) (.inr rfl) _⟩
    rw [HLE.out]
    exact heap_set hpl2 0 _
  · have q2 : 0 ≤ l := by omega
    by_cases q3 : d + e < l
    · have HLE := Lib.hid (show leastOf l (d + e) = d + e by unfold leastOf; rw [if_pos (.inr q3)])
      go_wp2
      go_end0
      obtain ⟨hpb2, hpl2, hk2⟩ := HP2.out
      refine ⟨rfl, d, HPD.out, heap_far hpb2 HNE.out _, ?_, hk2.setCell (p := ⟨pl, 0, none⟩) (.inr rfl) _⟩
      rw [HLE.out]
      exact heap_set hpl2 0 _
    · have HLE := Lib.hid (show leastOf l (d + e) = l by unfold leastOf; rw [if_neg (by omega)])
      have q4 : l ≤ d + e := by omega
      go_wp2
      go_end0
      obtain ⟨hpb2, hpl2, hk2⟩ := HP2.out
      refine ⟨rfl, d, HPD.out, hpb2, ?_, hk2⟩
      rw [HLE.out]
      exact hpl2
end Go.Proofs.YtmfgffmlnfimcaaDoor
