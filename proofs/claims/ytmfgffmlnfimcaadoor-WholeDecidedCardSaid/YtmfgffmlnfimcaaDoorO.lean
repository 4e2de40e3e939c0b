/- The way back through the table is a best tour; a row of the call's own that grows, and is turned about. -/
import Derived.Test.YtmfgffmlnfimcaaDoorK
import Derived.Test.YtmfgffmlnfimcaaDoorL
import Derived.Test.YtmfgffmlnfimcaaDoorM4
import Derived.WalkSmall
namespace Go.Proofs.YtmfgffmlnfimcaaDoor
open Go Go.RowKit Go.Shelf Go.Sort

theorem getD_mapn (l : List Nat) (j : Nat) : (l.map fun k : Nat => (k : Int)).getD j 0 = ((l.getD j 0 : Nat) : Int) := by
  simp only [List.getD_eq_getElem?_getD, List.getElem?_map]
  cases l[j]? <;> rfl

/-- The way back tells a best tour. -/
theorem tour_opt (I : Inst) (n : Nat) (hn : I.n = ((n + 1 : Nat) : Int)) (hk : I.kind = 3) {cost : Nat → Nat → Int} {back : Nat → Nat → Nat} (h : Tab (elt I) n cost back (2 ^ n)) (hn1 : 1 ≤ n) {last : Nat} (hl : last < n)
    (hmin : ∀ c, c < n → cost (2 ^ n - 1) last + elt I (last + 1) 0 ≤ cost (2 ^ n - 1) c + elt I (c + 1) 0) :
    (wayB back (2 ^ n - 1) (2 ^ n - 1) last).length = n ∧ Opt I ((tourOf (wayB back (2 ^ n - 1) (2 ^ n - 1) last)).map fun k : Nat => (k : Int)) := by
  obtain ⟨t, e, hnd, hlt, hlen, hbest⟩ := h.best hn1 hl hmin
  rw [e]
  refine ⟨hlen, ?_⟩
  have hN : I.n.toNat = n + 1 := by omega
  have hfe : Feas I ((tourOf (last :: t)).map fun k : Nat => (k : Int)) := by
    refine ⟨fun h => by omega, fun _ => ⟨⟨?_, fun j hj => ?_, fun j k hj hk e => ?_⟩, fun _ => rfl⟩⟩
    · rw [List.length_map, tourOf_length, hlen, hN]
    · rw [getD_mapn]
      have := tour_le hlt (j := j)
      omega
    · rw [getD_mapn, getD_mapn] at e
      exact tour_inj hnd (by omega) (by omega) (by omega)
  refine ⟨hfe, fun y hy => ?_⟩
  obtain ⟨hp, h0⟩ := hy.2 (by omega)
  rw [hN] at hp
  have hb := hbest (fun j => (y.getD j 0).toNat) hp.inj (by show (y.getD 0 0).toNat = 0; rw [h0 hk]; rfl)
  unfold costOf
  rw [if_neg (by omega), if_neg (by omega), if_neg (by omega), if_neg (by omega), hN]
  unfold tC
  rw [sumTo_congr (f := fun j => elt I (((tourOf (last :: t)).map fun k : Nat => (k : Int)).getD j 0).toNat (((tourOf (last :: t)).map fun k : Nat => (k : Int)).getD ((j + 1) % (n + 1)) 0).toNat)
    (g := fun k => elt I ((tourOf (last :: t)).getD k 0) ((tourOf (last :: t)).getD ((k + 1) % (n + 1)) 0)) (fun j _ => by rw [getD_mapn, getD_mapn, Int.toNat_natCast, Int.toNat_natCast])]
  exact hb

/-- One city alone. -/
theorem opt0 (I : Inst) (hn : I.n = 1) (hk : I.kind = 3) : Opt I [0] := by
  have hN : I.n.toNat = 1 := by omega
  have hfe : Feas I [0] := by
    refine ⟨fun h => by omega, fun _ => ⟨⟨by rw [hN]; rfl, fun j hj => ?_, fun j k hj hk _ => by omega⟩, fun _ => rfl⟩⟩
    obtain rfl : j = 0 := by omega
    rw [hN]; exact ⟨Int.le_refl _, by decide⟩
  refine ⟨hfe, fun y hy => ?_⟩
  obtain ⟨_, h0⟩ := hy.2 (by omega)
  unfold costOf
  rw [if_neg (by omega), if_neg (by omega), if_neg (by omega), if_neg (by omega), hN]
  simp only [tC, sumTo]
  rw [show (0 + 1) % 1 = 0 from rfl, h0 hk]
  exact Int.le_refl _

/-- Numbers in a row of the call's own. -/
def OwnI (w : World) (base : Nat) (v : Value) (xs : List Int) : Prop := w.ownsRow base 3 1 v xs.length (xs.map (Value.int .i64))

theorem OwnI.nil (w : World) (base : Nat) : OwnI w base (.slice none 0 0) [] := World.ownsRow_nil w base 3 1

/-- Where such a row lies. -/
theorem OwnI.lies {w : World} {base : Nat} {v : Value} {xs : List Int} (h : OwnI w base v xs) (hx : xs ≠ []) :
    ∃ g cap, v = .slice (some ⟨g, 0, none⟩) xs.length cap ∧ base ≤ g ∧ g < w.heap.size ∧ xs.length ≤ cap ∧ cap ≤ maxLen ∧ Holds (Value.int .i64) w g 0 xs.toArray := by
  obtain ⟨_, h2⟩ := h
  rcases h2 with ⟨_, h3⟩ | ⟨g, cap, cur, e, hb, hg, hn, hcm, hcs, ht⟩
  · exact absurd (List.eq_nil_of_length_eq_zero h3) hx
  · refine ⟨g, cap, e, hb, heap_lt hg, hn, hcm, fun j hj => ⟨?_, blk_free hg _⟩⟩
    have hj' : j < xs.length := by simpa using hj
    rw [blk_cell hg, Nat.zero_add]
    have h4 : (cur.toList.take (xs.length * 1))[j]? = (xs.map (Value.int .i64))[j]? := by rw [ht]
    rw [List.getElem?_take, if_pos (by omega), List.getElem?_map, List.getElem?_eq_getElem hj', Array.getElem?_toList] at h4
    rw [h4]
    simp [hj']

theorem holds_ints {w : World} {g : Nat} {xs : List Int} (h : Holds (Value.int .i64) w g 0 xs.toArray) : IntsAt w (some ⟨g, 0, none⟩) xs := by
  intro _
  refine ⟨_, rfl, fun j hj => ?_⟩
  have ha : (⟨g, 0, none⟩ : Addr).add j = ⟨g, j, none⟩ := by unfold Addr.add; split <;> simp_all
  have := (h j (by simpa using hj)).1
  rw [Nat.zero_add] at this
  rw [ha, this]
  simp [hj]

theorem below_putRow {w : World} {base g n : Nat} (hg : base ≤ g) (d : Array Int) : Below base w (putRow (Value.int .i64) (Sort.ahead w n) g 0 d) := by
  refine ⟨rfl, rfl, rfl, ?_, fun k hk => ?_⟩
  · rw [size_putRow]; exact Nat.le_refl _
  · simp only [putRow, mapBlock, Sort.ahead]
    rw [Array.getElem?_modify, if_neg (by omega)]

/-- slices.Reverse at a row of the call's own. -/
theorem rev_own (w : World) (base : Nat) (v : Value) (xs : List Int) (h : OwnI w base v xs) (hx : xs ≠ []) (hl : xs.length ≤ 1000000) :
    Calls Tryd.prog 41 #[v] w fun e w' => e = .returned (.tuple #[]) ∧ (∃ A c, v = .slice A xs.length c ∧ xs.length ≤ c ∧ IntsAt w' A xs.reverse) ∧ Below base w w' := by
  obtain ⟨g, cap, rfl, hb, hg, hcap, hcm, hH⟩ := h.lies hx
  refine (Any.slices_Reverse_int Tryd.lays112 g 0 cap xs w hH (by omega)).mono ?_
  rintro e w' ⟨rfl, n, rfl⟩
  refine ⟨rfl, ⟨some ⟨g, 0, none⟩, cap, rfl, hcap, holds_ints ?_⟩, below_putRow hb _⟩
  exact holds_putRow _ (Sort.ahead w n) g 0 xs.toArray _ (fun j hj => hH j hj) (by simp)

theorem OwnI.below {w w' : World} {base : Nat} {v : Value} {xs : List Int} (h : OwnI w base v xs) (hg : w.grownBy w' v.ownBlock) (hb : base ≤ w.heap.size) : Below base w w' := by
  refine (Below.refl base w).grown hg hb fun k hk => ?_
  rcases h.2 with ⟨e, _⟩ | ⟨g, cap, cur, e, hb, _⟩
  · rw [e] at hk; cases hk
  · rw [e] at hk
    have : k = g := by cases hk; rfl
    omega

/-- One more at the end: the law at the walk's step. -/
theorem append_one {ops : Array Oper} {rest : List Oper} {o : Oper} {a : Act} {Q : Exit → Act → World → Prop} (hgd : o.guard = none) (s x : Operand)
    (ho : o.op = .call { callee := .builtin .append, args := #[s, x], argTypes := #[22, 22] }) (base : Nat) (v : Value) (xs : List Int) (hs : a.eval s = v) (w : World) (hown : OwnI w base v xs) (y : Int)
    (hx : a.eval x = .slice (some ⟨w.heap.size, 0, none⟩) 1 1) (hl : xs.length ≤ 1000000) (hb : base ≤ w.heap.size)
    (h : ∀ v' w', OwnI w' base v' (xs ++ [y]) → Below base w w' → wpList Tryd.prog ops Q rest (a.put o.dst v') w') :
    wpList Tryd.prog ops Q (o :: rest) a (w.alloc (.cells #[.int .i64 y] 3)) := by
  obtain ⟨i, hi, hz0, hz1, hz2⟩ := info_parts (P := Tryd.prog) (e := 3) (z := .int .i64 0) (size := 1) (bytes := 8) (by kernel_rfl)
  refine wpList_append_own _ hgd s x 22 ho base 3 i (.int .i64 0) 1 8 Tryd.underlying22 hi hz0 hz1 hz2 rfl (by decide) v xs.length (xs.map (Value.int .i64)) hs (hown.alloc _) ⟨w.heap.size, 0, none⟩ 1 1 [.int .i64 y] hx rfl (cell_one_new _ _ _) ?_ ?_ ?_ ?_ ?_
  · intro u hu; simp at hu; subst hu; rfl
  · unfold maxLen; omega
  · omega
  · simp; omega
  · intro v' w' h1 h2 _
    refine h v' w' ?_ ?_
    · unfold OwnI
      rw [List.length_append, List.map_append]
      exact h1
    · have hb1 : Below base w (w.alloc (.cells #[.int .i64 y] 3)) := (Below.refl _ _).alloc hb _
      refine hb1.trans (OwnI.below (v := v) (xs := xs) (hown.alloc _) h2 (by simp; omega))

end Go.Proofs.YtmfgffmlnfimcaaDoor
