/- The walk of without. -/
import Derived.Test.YtmfgffmlnfimcaaDoorAs
import Derived.Deep.Slices
namespace Go.Proofs.YtmfgffmlnfimcaaDoor
open Go Go.RowKit Go.Shelf Go.Sort Go.Deep

set_option maxRecDepth 200000 in
set_option maxHeartbeats 2000000 in
/-- without: a list without one of its elements. -/
theorem without_any (ad : Addr) (c : Nat) (xs : List Int) (k : Nat) (w : World) (hA : ∀ j, j < xs.length → w.cell? (ad.add j) = some (.int .i64 (xs.getD j 0))) (hk : k < xs.length) (hl : xs.length ≤ 64) (hc : xs.length ≤ c) :
    Calls Tryd.prog 12 #[.slice (some ad) xs.length c, .int .i64 (k : Int)] w fun e w' => (∃ v : Value, e = .returned v ∧ OwnI w' w.heap.size v (xs.take k ++ xs.drop (k + 1))) ∧ Below w.heap.size w w' := by
  obtain ⟨n, hn⟩ : ∃ x, xs.length = x := ⟨_, rfl⟩
  rw [hn] at hA hk hl hc ⊢
  have HNN := Lib.hid hn
  have cells : ∀ W : World, Below w.heap.size w W → ∀ j, j < n → W.cell? (ad.add j) = some (.int .i64 (xs.getD j 0)) := fun W hW j hj => cell_keep hW (hA j hj)
  have al : Below w.heap.size w (w.alloc (.cells #[] 3)) := (Below.refl _ _).alloc (Nat.le_refl _) _
  have eqx : ∀ {W V : World}, Below w.heap.size w W → V.heap = W.heap → V.os = W.os → V.tape = W.tape → V.output = W.output → Below w.heap.size w V := fun h a b c d => ⟨b.trans h.os, c.trans h.tape, d.trans h.output, by rw [a]; exact h.size, fun k hk => by rw [a]; exact h.block k hk⟩
  have HN1 := Lib.hid (show ∀ W : World, W.heap = (w.alloc (.cells #[] 3)).heap → OwnI W w.heap.size (.slice (some ⟨w.heap.size, 0, none⟩) 0 0) [] ∧ w.heap.size ≤ W.heap.size from fun W e =>
    ⟨⟨rfl, .inr ⟨w.heap.size, 0, #[], rfl, Nat.le_refl _, by rw [e]; exact heap_new w _ _ rfl, Nat.le_refl _, Nat.zero_le _, rfl, rfl⟩⟩, by rw [e]; simp⟩)
  have HC1 := Lib.hid (show ∀ W : World, W.heap = (w.alloc (.cells #[] 3)).heap → W.os = w.os → W.tape = w.tape → W.output = w.output → (xs.take k).length = k ∧ ∃ a2, some ad = some a2 ∧ ∀ j, j < k → W.cell? (a2.add j) = some (.int .i64 ((xs.take k).getD j 0)) from fun W e1 e2 e3 e4 =>
    ⟨by rw [List.length_take]; omega, _, rfl, fun j hj => by
      rw [cells W (eqx al e1 e2 e3 e4) j (by omega)]; simp [List.getD_eq_getElem?_getD, hj]⟩)
  have HC2 := Lib.hid (show ∀ Wx w4 W : World, Below w.heap.size Wx w4 → Wx.heap = (w.alloc (.cells #[] 3)).heap → Wx.os = w.os → Wx.tape = w.tape → Wx.output = w.output → W.heap = w4.heap → W.os = w4.os → W.tape = w4.tape → W.output = w4.output → (xs.drop (k + 1)).length = n - (k + 1) ∧ ∃ a2, (if c = k + 1 then some ad else some (ad.add (k + 1))) = some a2 ∧ ∀ j, j < n - (k + 1) → W.cell? (a2.add j) = some (.int .i64 ((xs.drop (k + 1)).getD j 0)) from fun Wx w4 W hb e1 e2 e3 e4 f1 f2 f3 f4 =>
    ⟨by rw [List.length_drop]; omega, by
      by_cases hcq1 : c = k + 1
      · exact ⟨_, if_pos hcq1, fun j hj => by omega⟩
      refine ⟨_, if_neg hcq1, fun j hj => ?_⟩
      rw [Go.Deep.add_add, cells W (eqx ((eqx al e1 e2 e3 e4).trans hb) f1 f2 f3 f4) _ (by omega)]
      simp [List.getD_eq_getElem?_getD]⟩)
  have HO4 := Lib.hid (show ∀ w4 W : World, ∀ v4 ys, OwnI w4 w.heap.size v4 ys → w.heap.size ≤ w4.heap.size → W.heap = w4.heap → OwnI W w.heap.size v4 ys ∧ w.heap.size ≤ W.heap.size from fun w4 W v4 ys h hs e => by
    refine ⟨⟨h.1, ?_⟩, by rw [e]; exact hs⟩
    rcases h.2 with h2 | ⟨g, cap, cur, e2, hb', hg, r⟩
    · exact .inl h2
    · exact .inr ⟨g, cap, cur, e2, hb', by rw [e]; exact hg, r⟩)
  have HK5 := Lib.hid (show ∀ Wx w4 Wy w5 : World, Below w.heap.size Wx w4 → Below w.heap.size Wy w5 → Wx.heap = (w.alloc (.cells #[] 3)).heap → Wx.os = w.os → Wx.tape = w.tape → Wx.output = w.output → Wy.heap = w4.heap → Wy.os = w4.os → Wy.tape = w4.tape → Wy.output = w4.output → Below w.heap.size w w5 from fun Wx w4 Wy w5 b4 b5 e1 e2 e3 e4 f1 f2 f3 f4 =>
    (eqx ((eqx al e1 e2 e3 e4).trans b4) f1 f2 f3 f4).trans b5)
  have hl2 : (([] : List Int) ++ xs.take k).length + (n - (k + 1)) ≤ 1000000 := by rw [List.nil_append, List.length_take]; omega
  have hl1 : ([] : List Int).length + k ≤ 1000000 := by simp only [List.length_nil]; omega
  have hq1 : IntKind.i64.wrap ((k : Int) + 1) = (k : Int) + 1 := by rw [IntKind.wrap_i64]; omega
  have hq2 : ((k : Int) + 1).toNat = k + 1 := by omega
  have hq3 : 0 ≤ (k : Int) + 1 := by omega
  have hq4 : (k : Int) + 1 ≤ (n : Int) := by omega
  have hq5 : (k : Int) ≤ (n : Int) := by omega
  have hq6 : (k : Int) ≤ (c : Int) := by omega
  have hq7 : (k : Int) + 1 ≤ (c : Int) := by omega
  clear cells al eqx hA hn
  go_enter Tryd.func12, Tryd.ntmps12
  go_upto_region 1 with (fail)
  go_region_held3 (fun w' => True) (first | trivial | go_keep)
    (first | ((refine step_append_spread w.heap.size v4 _ rfl _ (HO4.out _ _ _ _ o4 (Nat.le_trans (HN1.out _ rfl).2 b4.size) rfl) _ (n - (k + 1)) _ _ (HC2.out _ _ _ b4 rfl rfl rfl rfl rfl rfl rfl rfl) rfl hl2 ?_; intro v5 w5 o5 b5)) | ((refine step_append_spread w.heap.size (.slice (some ⟨w.heap.size, 0, none⟩) 0 0) [] rfl _ (HN1.out _ rfl) _ k _ _ (HC1.out _ rfl rfl rfl rfl) rfl hl1 ?_; intro v4 w4 o4 b4)) | fail)
  have HZ := Lib.hid (And.intro o5 (HK5.out _ _ _ _ b4 b5 rfl rfl rfl rfl rfl rfl rfl rfl))
  clear o4 o5 b4 b5 hq1 hq2 hq3 hq4 hq5 hq6 hq7
  go_wp2
  all_goals go_ret
  all_goals exact ⟨⟨_, rfl, by have := HZ.out.1; rwa [List.nil_append] at this⟩, HZ.out.2⟩
end Go.Proofs.YtmfgffmlnfimcaaDoor
