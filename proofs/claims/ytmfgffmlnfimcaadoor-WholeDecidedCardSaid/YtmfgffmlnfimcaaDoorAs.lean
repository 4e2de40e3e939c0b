/- Whole slices appended to a list of the call's own; the walk of shuffled. -/
import Derived.Test.YtmfgffmlnfimcaaDoorZ
import Derived.Deep.RegionHeld3
import Derived.Deep.AppendLies
namespace Go.Proofs.YtmfgffmlnfimcaaDoor
open Go Go.RowKit Go.Shelf Go.Sort Go.Deep

theorem OwnI.at {w : World} {base : Nat} {v : Value} {xs : List Int} (h : OwnI w base v xs) : ∃ A c, v = .slice A xs.length c ∧ xs.length ≤ c ∧ IntsAt w A xs := by
  by_cases hx : xs = []
  · subst hx
    obtain ⟨A, c, e⟩ := h.form
    exact ⟨A, c, e, Nat.zero_le _, fun h => by cases h⟩
  · obtain ⟨g, cap, e, -, hc, ha⟩ := h.arr hx
    exact ⟨_, cap, e, hc, ha.ints rfl fun j hj => rfl⟩
theorem OwnI.keepS {S : Nat → Prop} {w w' : World} {base : Nat} {v : Value} {xs : List Int} (h : OwnI w base v xs) (hk : Keep S w w') (hs : ∀ k, v.ownBlock = some k → ¬ S k) : OwnI w' base v xs := by
  refine ⟨h.1, ?_⟩
  rcases h.2 with h2 | ⟨g, cap, cur, e, hb', hg, r⟩
  · exact .inl h2
  · exact .inr ⟨g, cap, cur, e, hb', hk.heap hg (hs g (by rw [e]; rfl)), r⟩

/-- A whole slice at the end of an own list: the law at a step of a region that draws its order. -/
theorem step_append_spread {ops : Array Oper} {dst ty pos af} {a : Act} {K : Act → World → Prop} {Q : Exit → Act → World → Prop} {E : Prop} {s x : Operand} (base : Nat) (v : Value) (xs : List Int) (hs : a.eval s = v) (w : World) (hown : OwnI w base v xs ∧ base ≤ w.heap.size) (A : Option Addr) (m c : Nat) (ys : List Int) (hy0 : ys.length = m ∧ ∃ ad, A = some ad ∧ ∀ j, j < m → w.cell? (ad.add j) = some (.int .i64 (ys.getD j 0)))
    (hx : a.eval x = .slice A m c) (hl : xs.length + m ≤ 1000000)
    (h : ∀ v' w', OwnI w' base v' (xs ++ ys) → Below base w w' → K (a.put dst v') w') :
    if Region.wanted ⟨dst, .call { callee := .builtin .append, args := #[s, x], argTypes := #[22, 22] }, ty, pos, af, none⟩ (yielded ops a.tmps) = true then Oper.wp Tryd.prog ⟨dst, .call { callee := .builtin .append, args := #[s, x], argTypes := #[22, 22] }, ty, pos, af, none⟩ a w K Q else E := by
  obtain ⟨i, hi, hz0, hz1, hz2⟩ := info_parts (P := Tryd.prog) (e := 3) (z := .int .i64 0) (size := 1) (bytes := 8) (by kernel_rfl)
  rw [if_pos (by simp [Region.wanted])]
  obtain ⟨hym, ad, rfl, hyc⟩ := hy0
  have hy := And.intro hym hyc
  obtain ⟨v', w', hr, h2, h3, _⟩ := run_append_own_at (P := Tryd.prog) w base 22 ty 3 i _ 1 8 Tryd.underlying22 hi hz0 hz1 hz2 rfl (by decide) v xs.length (xs.map (Value.int .i64)) hown.1 ad m c (ys.map (Value.int .i64)) (by simp [hy.1]) (fun j u hj => by
    have hjl : j < m := by
      rcases Nat.lt_or_ge j m with h1 | h1
      · exact h1
      · rw [List.getElem?_eq_none (by simp [hy.1, h1])] at hj; cases hj
    rw [hy.2 j hjl]
    rw [List.getElem?_map] at hj
    rw [List.getD_eq_getElem?_getD]
    cases hq : ys[j]? with
    | none => rw [hq] at hj; cases hj
    | some q => rw [hq] at hj; simpa using hj) (fun u hu => by
    obtain ⟨q, _, rfl⟩ := List.mem_map.1 hu
    rfl) (by unfold maxLen; omega) (by omega) hown.2
  unfold Oper.wp execOp
  simp only [resolve, invoke, builtin, Sem.run_bind, Sem.run_pure, Result.andThen_ok, List.map_toArray, List.map_cons, List.map_nil, hs, hx, hr]
  refine h v' w' ?_ (OwnI.below hown.1 h3 hown.2)
  unfold OwnI
  rw [List.length_append, List.map_append, hy.1]
  exact h2

/-- One more at the end of an own list, with what stays. -/
theorem append_one_f {ops : Array Oper} {rest : List Oper} {o : Oper} {a : Act} {Q : Exit → Act → World → Prop} (hgd : o.guard = none) (s x : Operand)
    (ho : o.op = .call { callee := .builtin .append, args := #[s, x], argTypes := #[22, 22] }) (base : Nat) (v : Value) (xs : List Int) (hs : a.eval s = v) (w : World) (hown : OwnI w base v xs) (y : Int)
    (hx : a.eval x = .slice (some ⟨w.heap.size, 0, none⟩) 1 1) (hl : xs.length ≤ 1000000) (hb : base ≤ w.heap.size)
    (h : ∀ v' w', OwnI w' base v' (xs ++ [y]) → Below base w w' → Keep (fun k => v.ownBlock = some k) w w' → (v'.ownBlock = v.ownBlock ∨ v'.ownBlock = some (w.heap.size + 1)) → wpList Tryd.prog ops Q rest (a.put o.dst v') w') :
    wpList Tryd.prog ops Q (o :: rest) a (w.alloc (.cells #[.int .i64 y] 3)) := by
  obtain ⟨i, hi, hz0, hz1, hz2⟩ := info_parts (P := Tryd.prog) (e := 3) (z := .int .i64 0) (size := 1) (bytes := 8) (by kernel_rfl)
  refine wpList_append_own_at _ hgd s x 22 ho base 3 i (.int .i64 0) 1 8 Tryd.underlying22 hi hz0 hz1 hz2 rfl (by decide) v xs.length (xs.map (Value.int .i64)) hs (hown.alloc _) ⟨w.heap.size, 0, none⟩ 1 1 [.int .i64 y] hx rfl (cell_one_new _ _ _) ?_ ?_ ?_ ?_ ?_
  · intro u hu; simp at hu; subst hu; rfl
  · unfold maxLen; omega
  · omega
  · simp; omega
  · intro v' w' h1 h2 _ h4
    have hb1 : Below base w (w.alloc (.cells #[.int .i64 y] 3)) := (Below.refl _ _).alloc hb _
    refine h v' w' ?_ (hb1.trans (OwnI.below (v := v) (xs := xs) (hown.alloc _) h2 (by simp; omega))) ⟨h2.os, h2.tape, h2.output, by have := h2.size; simp at this; omega, fun k hk hs => ?_⟩ (by simpa using h4)
    · unfold OwnI
      rw [List.length_append, List.map_append]
      exact h1
    · exact (h2.block k (by simp; omega) (fun e => hs e.symm)).trans (Below.heap_alloc w _ k hk)

/-- A slice of bytes that is read. -/
def U8At (w : World) (A : Option Addr) (L : List Nat) : Prop := 0 < L.length → ∃ ad, A = some ad ∧ ∀ j, j < L.length → w.cell? (ad.add j) = some (.int .u8 ((L.getD j 0 : Nat) : Int)) ∧ L.getD j 0 < 256
theorem U8At.keep {w w' : World} {A : Option Addr} {L : List Nat} (h : U8At w A L) (hb : Below w.heap.size w w') : U8At w' A L := by
  intro hn
  obtain ⟨ad, e, hc⟩ := h hn
  exact ⟨ad, e, fun j hj => ⟨cell_keep hb (hc j hj).1, (hc j hj).2⟩⟩

theorem mapn_get (l : List Nat) (j : Nat) : (l.map fun k : Nat => (k : Int)).getD j 0 = ((l.getD j 0 : Nat) : Int) := getD_mapn l j
theorem perm_step {l o : List Nat} {n at_ : Nat} (h : (o ++ l).Perm (List.range n)) (ha : at_ < l.length) : ((o ++ [l.getD at_ 0]) ++ (l.take at_ ++ l.drop (at_ + 1))).Perm (List.range n) := by
  refine List.Perm.trans ?_ h
  have e : l = l.take at_ ++ l.getD at_ 0 :: l.drop (at_ + 1) := by
    have h2 : l.drop at_ = l.getD at_ 0 :: l.drop (at_ + 1) := by
      rw [List.drop_eq_getElem_cons ha]
      simp [List.getD_eq_getElem?_getD, ha]
    rw [← h2, List.take_append_drop]
  have h3 : (l.take at_ ++ l.getD at_ 0 :: l.drop (at_ + 1)).Perm (l.getD at_ 0 :: (l.take at_ ++ l.drop (at_ + 1))) := List.perm_middle
  rw [← e] at h3
  rw [List.append_assoc]
  exact (List.Perm.append_left o h3.symm)
theorem perm_inj {l : List Nat} {n : Nat} (h : l.Perm (List.range n)) : l.length = n ∧ Inj n fun j => l.getD j 0 := by
  have hl : l.length = n := by simpa using h.length_eq
  have hnd : l.Nodup := h.nodup_iff.2 List.nodup_range
  refine ⟨hl, fun j hj => ?_, fun j k hj hk e => ?_⟩
  · have hm : l.getD j 0 ∈ l := by
      rw [List.getD_eq_getElem?_getD, List.getElem?_eq_getElem (by omega)]
      exact List.getElem_mem _
    exact List.mem_range.1 (h.mem_iff.1 hm)
  · have e2 : l[j]'(by omega) = l[k]'(by omega) := by
      simpa [List.getD_eq_getElem?_getD, show j < l.length by omega, show k < l.length by omega] using e
    have hp := List.pairwise_iff_getElem.1 hnd
    rcases Nat.lt_trichotomy j k with h1 | h1 | h1
    · exact absurd e2 (hp j k (by omega) (by omega) h1)
    · exact h1
    · exact absurd e2.symm (hp k j (by omega) (by omega) h1)

set_option maxRecDepth 200000 in
set_option maxHeartbeats 2000000 in
/-- shuffled: the numbers below n in some order. -/
theorem shuffled_any (n : Nat) (A : Option Addr) (L : List Nat) (c : Nat) (w : World) (hn : n ≤ 24) (hU : U8At w A L) :
    Calls Tryd.prog 16 #[.int .i64 (n : Int), .slice A L.length c] w fun e w' => (∃ (l : List Nat) (v : Value), e = .returned v ∧ l.Perm (List.range n) ∧ OwnI w' w.heap.size v (l.map fun k : Nat => (k : Int))) ∧ Below w.heap.size w w' := by
  have HU := Lib.hid hU
  obtain ⟨lp, hlp⟩ : ∃ x, L.length = x := ⟨_, rfl⟩
  rw [hlp]
  have HLP := Lib.hid hlp
  clear hU hlp
  go_enter Tryd.func16, Tryd.ntmps16
  go_wp2
  go_loopg [5, 7] n (fun gg v5 v7 wr => ∃ k : Nat, v7 = .int .i64 k ∧ k + gg = n ∧ Hid (OwnI wr w.heap.size v5 ((List.range k).map fun k : Nat => (k : Int))) ∧ Hid (Below w.heap.size w wr))
  case atStart => exact ⟨0, rfl, by omega, Lib.hid (OwnI.nil _ _), Lib.hid (Below.refl _ _)⟩
  case round =>
    obtain ⟨k, rfl, hk, HO, HB⟩ := hrel
    have hBs := HB.out.size
    by_cases ck : k < n
    · have hki : (k : Int) < (n : Int) := by omega
      go_wp2_with (at_builtin; refine append_one_f rfl _ _ rfl w.heap.size u5 _ rfl wr HO.out (k : Int) rfl (by simp; omega) hBs ?_)
      intro v' w' h1 h2 h3 h4
      have HX := Lib.hid (And.intro h1 h2)
      clear h1 h2 h3 h4
      go_wp2
      go_roundg (gk - 1)
      case measure => omega
      case rel => exact ⟨k + 1, by go_num, by omega, Lib.hid (by rw [List.range_succ, List.map_append]; exact HX.out.1), Lib.hid (HB.out.trans HX.out.2)⟩
    · have ek : n = k := by omega
      subst ek
      go_wp2
      go_loopg [5, 6, 8] n (fun gg v5 v6 v8 wq => ∃ (k : Nat) (l o : List Nat), v8 = .int .i64 k ∧ k + gg = n ∧ o.length = k ∧ l.length + k = n ∧ Hid ((o ++ l).Perm (List.range n)) ∧ Hid (OwnI wq w.heap.size v5 (l.map fun k : Nat => (k : Int))) ∧ Hid (OwnI wq w.heap.size v6 (o.map fun k : Nat => (k : Int))) ∧ Hid (∀ q, v5.ownBlock = some q → v6.ownBlock ≠ some q) ∧ Hid (Below w.heap.size w wq))
      case atStart => exact ⟨0, List.range n, [], rfl, by omega, rfl, by simp, Lib.hid (List.Perm.refl _), HO, Lib.hid (OwnI.nil _ _), Lib.hid (fun q _ e => by cases e), HB⟩
      case round =>
        clear HO HB hBs hk ck
        obtain ⟨k, l, o, rfl, hk, hol, hll, HP, HO5, HO6, HAP, HB⟩ := hrel
        have hBs := HB.out.size
        by_cases ck : k < n
        · have hki : (k : Int) < (n : Int) := by omega
          obtain ⟨ll, hll2⟩ : ∃ x, l.length = x := ⟨_, rfl⟩
          obtain ⟨gL, capL, hvL, hgL, hcL, hAL⟩ := HO5.out.arr (fun e => by have h := congrArg List.length e; rw [List.length_map] at h; simp only [List.length_nil] at h; omega)
          subst hvL
          simp only [List.length_map, hll2] at hcL hAL
          have HLL := Lib.hid hll2
          have HAL := Lib.hid hAL
          simp only [List.length_map, hll2]
          have hll0 : 0 < ll := by omega
          have hlli : (0 : Int) < (ll : Int) := by omega
          rw [hll2] at hll
          clear hll2 hAL
          by_cases cp : k < lp
          · obtain ⟨ad, e, hc⟩ := (HU.out.keep HB.out) (by rw [HLP.out]; omega)
            obtain ⟨hc1, hc2⟩ := hc k (by rw [HLP.out]; exact cp)
            subst e
            obtain ⟨x, hx⟩ : ∃ x, L.getD k 0 = x := ⟨_, rfl⟩
            rw [hx] at hc1 hc2
            obtain ⟨q, hq⟩ : ∃ q, x % ll = q := ⟨_, rfl⟩
            have hql : q < ll := by rw [← hq]; exact Nat.mod_lt _ hll0
            have hr1 : (x : Int) % (ll : Int) = (q : Int) := by rw [← hq]; simp
            have hr2 : (x : Int).tmod (ll : Int) = (q : Int) := by rw [Int.tmod_eq_emod_of_nonneg (by omega)]; exact hr1
            have hx2 : (x : Int) < 256 := by omega
            have hcpi : (k : Int) < (lp : Int) := by omega
            have hqi : (q : Int) < (ll : Int) := by omega
            have hcq := HAL.out.cell hql
            rw [mapn_get] at hcq
            obtain ⟨y, hy⟩ : ∃ y, l.getD q 0 = y := ⟨_, rfl⟩
            rw [hy] at hcq
            have HY := Lib.hid hy
            clear hc hx hq hy
            go_wp2_with (at_builtin; refine append_one_f rfl _ _ rfl w.heap.size u6 _ rfl wr HO6.out (y : Int) rfl (by simp; omega) hBs ?_)
            intro v' w' h1 h2 h3 h4
            go_upto_region 13 with (fail)
            have hAP := HAP.out gL rfl
            have hAL' : Arr w' gL ll fun j => (l.map fun k : Nat => (k : Int)).getD j 0 := Row.keep HAL.out h3 (fun e => hAP e)
            have hgl := Row.lt hAL'
            have hsz := h3.size
            have cells : ∀ W : World, (∀ b o, b < w'.heap.size → W.cell? ⟨b, o, none⟩ = w'.cell? ⟨b, o, none⟩) → ∀ j, j < ll → W.cell? ⟨gL, j, none⟩ = some (.int .i64 ((l.getD j 0 : Nat) : Int)) := fun W hW j hj => by
              rw [hW gL j hgl, hAL'.cell hj, mapn_get]
            have ex : ∀ W W' : World, W'.heap = W.heap → ∀ b o, W'.cell? ⟨b, o, none⟩ = W.cell? ⟨b, o, none⟩ := fun W W' e b o => by simp only [World.cell?, e]
            have al : Below w'.heap.size w' (w'.alloc (.cells #[] 3)) := (Below.refl _ _).alloc (Nat.le_refl _) _
            have HN1 := Lib.hid (show ∀ W : World, W.heap = (w'.alloc (.cells #[] 3)).heap → OwnI W w'.heap.size (.slice (some ⟨w'.heap.size, 0, none⟩) 0 0) [] ∧ w'.heap.size ≤ W.heap.size from fun W e =>
              ⟨⟨rfl, .inr ⟨w'.heap.size, 0, #[], rfl, Nat.le_refl _, by rw [e]; exact heap_new w' _ _ rfl, Nat.le_refl _, Nat.zero_le _, rfl, rfl⟩⟩, by rw [e]; simp⟩)
            have HC1 := Lib.hid (show ∀ W : World, W.heap = (w'.alloc (.cells #[] 3)).heap → ((l.take q).map fun k : Nat => (k : Int)).length = q ∧ ∃ ad, some (⟨gL, 0, none⟩ : Addr) = some ad ∧ ∀ j, j < q → W.cell? (ad.add j) = some (.int .i64 (((l.take q).map fun k : Nat => (k : Int)).getD j 0)) from fun W e =>
              ⟨by rw [List.length_map, List.length_take, HLL.out]; first | done | omega, _, rfl, fun j hj => by
                first | (exfalso; omega) | (rw [row_slice, cells W (fun b o hb => (ex _ _ e b o).trans (al.cell (p := ⟨b, o, none⟩) hb)) j (by omega), mapn_get]; simp [List.getD_eq_getElem?_getD, hj])⟩)
            have HC2 := Lib.hid (show ∀ Wx w4 W : World, Below w'.heap.size Wx w4 → Wx.heap = (w'.alloc (.cells #[] 3)).heap → W.heap = w4.heap → ((l.drop (q + 1)).map fun k : Nat => (k : Int)).length = ll - (q + 1) ∧ ∃ ad, (if capL = q + 1 then some (⟨gL, 0, none⟩ : Addr) else some ⟨gL, q + 1, none⟩) = some ad ∧ ∀ j, j < ll - (q + 1) → W.cell? (ad.add j) = some (.int .i64 (((l.drop (q + 1)).map fun k : Nat => (k : Int)).getD j 0)) from fun Wx w4 W hb e e2 =>
              ⟨by rw [List.length_map, List.length_drop, HLL.out], by
                by_cases hcq1 : capL = q + 1
                · exact ⟨_, if_pos hcq1, fun j hj => by omega⟩
                refine ⟨_, if_neg hcq1, fun j hj => ?_⟩
                have ea : (⟨gL, q + 1, none⟩ : Addr).add j = ⟨gL, q + 1 + j, none⟩ := by unfold Addr.add; split <;> simp_all
                rw [ea, cells W (fun b o hb2 => (ex _ _ e2 b o).trans ((hb.cell (p := ⟨b, o, none⟩) hb2).trans ((ex _ _ e b o).trans (al.cell (p := ⟨b, o, none⟩) hb2)))) _ (by omega), mapn_get]
                simp [List.getD_eq_getElem?_getD]⟩)
            have HO4 := Lib.hid (show ∀ w4 W : World, ∀ v4 xs, OwnI w4 w'.heap.size v4 xs → w'.heap.size ≤ w4.heap.size → W.heap = w4.heap → OwnI W w'.heap.size v4 xs ∧ w'.heap.size ≤ W.heap.size from fun w4 W v4 xs h hs e => by
              refine ⟨⟨h.1, ?_⟩, by rw [e]; exact hs⟩
              rcases h.2 with h2 | ⟨g, cap, cur, e2, hb', hg, r⟩
              · exact .inl h2
              · exact .inr ⟨g, cap, cur, e2, hb', by rw [e]; exact hg, r⟩)
            have HK5 := Lib.hid (show ∀ Wx w4 Wy w5 : World, Below w'.heap.size Wx w4 → Below w'.heap.size Wy w5 → Wx.heap = (w'.alloc (.cells #[] 3)).heap → Wx.os = w'.os → Wx.tape = w'.tape → Wx.output = w'.output → Wy.heap = w4.heap → Wy.os = w4.os → Wy.tape = w4.tape → Wy.output = w4.output → Below w'.heap.size w' w5 from fun Wx w4 Wy w5 b4 b5 e1 e2 e3 e4 f1 f2 f3 f4 => by
              have c1 : Below w'.heap.size w' Wx := ⟨e2, e3, e4, by rw [e1]; exact al.size, fun k hk => by rw [e1]; exact al.block k hk⟩
              have c2 : Below w'.heap.size w4 Wy := ⟨f2, f3, f4, by rw [f1]; exact Nat.le_refl _, fun k hk => by rw [f1]⟩
              exact ((c1.trans b4).trans c2).trans b5)
            have hl2 : (([] : List Int) ++ (l.take q).map fun k : Nat => (k : Int)).length + (ll - (q + 1)) ≤ 1000000 := by rw [List.nil_append, List.length_map, List.length_take, HLL.out]; omega
            have hl1 : ([] : List Int).length + q ≤ 1000000 := by simp only [List.length_nil]; omega
            have HX := Lib.hid (And.intro h1 (And.intro h2 (And.intro h3 h4)))
            have hq1 : IntKind.i64.wrap ((q : Int) + 1) = (q : Int) + 1 := by rw [IntKind.wrap_i64]; omega
            have hq2 : ((q : Int) + 1).toNat = q + 1 := by omega
            have hq3 : 0 ≤ (q : Int) + 1 := by omega
            have hq4 : (q : Int) + 1 ≤ (ll : Int) := by omega
            have hq5 : (q : Int) ≤ (ll : Int) := by omega
            have hq6 : (q : Int) ≤ (capL : Int) := by omega
            have hq7 : (q : Int) + 1 ≤ (capL : Int) := by omega
            clear h1 h2 h3 h4 hAL' cells ex al hgl
            go_region_held3 (fun w' => True) (first | trivial | go_keep)
              (first | ((refine step_append_spread w'.heap.size v4 _ rfl _ (HO4.out _ _ _ _ o4 (Nat.le_trans (HN1.out _ rfl).2 b4.size) rfl) _ (ll - (q + 1)) _ _ (HC2.out _ _ _ b4 rfl rfl) rfl hl2 ?_; intro v5 w5 o5 b5)) | ((refine step_append_spread w'.heap.size (.slice (some ⟨w'.heap.size, 0, none⟩) 0 0) [] rfl _ (HN1.out _ rfl) _ q _ _ (HC1.out _ rfl) rfl hl1 ?_; intro v4 w4 o4 b4)) | fail)
            have HZ := Lib.hid (And.intro o5 (HK5.out _ _ _ _ b4 b5 rfl rfl rfl rfl rfl rfl rfl rfl))
            clear o4 o5 b4 b5 hq1 hq2 hq3 hq4 hq5 hq6 hq7 
            go_wp2
            all_goals go_roundg (gk - 1)
            all_goals (try omega)
            all_goals
              obtain ⟨h1, h2, h3, h4⟩ := HX.out
              obtain ⟨o5, b5⟩ := HZ.out
              have hp := perm_step HP.out (at_ := q) (by rw [HLL.out]; omega)
              rw [HY.out] at hp
              refine ⟨k + 1, l.take q ++ l.drop (q + 1), o ++ [y], by go_num, by omega, by simp [hol], by rw [List.length_append, List.length_take, List.length_drop, HLL.out]; omega, Lib.hid hp, Lib.hid ?_, Lib.hid ?_, Lib.hid ?_, Lib.hid ((HB.out.trans h2).trans (b5.mono (by have := HB.out.size; have := h2.size; omega)))⟩
              · rw [List.nil_append, ← List.map_append] at o5
                exact o5.mono (by have := HB.out.size; have := h2.size; omega)
              · have := h1.keep b5
                rw [List.map_append]
                exact this
              · intro z hz e
                have := h1.blockLt e
                have := o5.blockGe hz
                omega
          · have hcq := HAL.out.cell hll0
            rw [mapn_get] at hcq
            obtain ⟨y, hy⟩ : ∃ y, l.getD 0 0 = y := ⟨_, rfl⟩
            rw [hy] at hcq
            have HY := Lib.hid hy
            have hcpi : ¬ (k : Int) < (lp : Int) := by omega
            clear hy
            go_wp2_with (at_builtin; refine append_one_f rfl _ _ rfl w.heap.size u6 _ rfl wr HO6.out (y : Int) rfl (by simp; omega) hBs ?_)
            intro v' w' h1 h2 h3 h4
            go_upto_region 13 with (fail)
            have hAP := HAP.out gL rfl
            have hAL' : Arr w' gL ll fun j => (l.map fun k : Nat => (k : Int)).getD j 0 := Row.keep HAL.out h3 (fun e => hAP e)
            have hgl := Row.lt hAL'
            have hsz := h3.size
            have cells : ∀ W : World, (∀ b o, b < w'.heap.size → W.cell? ⟨b, o, none⟩ = w'.cell? ⟨b, o, none⟩) → ∀ j, j < ll → W.cell? ⟨gL, j, none⟩ = some (.int .i64 ((l.getD j 0 : Nat) : Int)) := fun W hW j hj => by
              rw [hW gL j hgl, hAL'.cell hj, mapn_get]
            have ex : ∀ W W' : World, W'.heap = W.heap → ∀ b o, W'.cell? ⟨b, o, none⟩ = W.cell? ⟨b, o, none⟩ := fun W W' e b o => by simp only [World.cell?, e]
            have al : Below w'.heap.size w' (w'.alloc (.cells #[] 3)) := (Below.refl _ _).alloc (Nat.le_refl _) _
            have HN1 := Lib.hid (show ∀ W : World, W.heap = (w'.alloc (.cells #[] 3)).heap → OwnI W w'.heap.size (.slice (some ⟨w'.heap.size, 0, none⟩) 0 0) [] ∧ w'.heap.size ≤ W.heap.size from fun W e =>
              ⟨⟨rfl, .inr ⟨w'.heap.size, 0, #[], rfl, Nat.le_refl _, by rw [e]; exact heap_new w' _ _ rfl, Nat.le_refl _, Nat.zero_le _, rfl, rfl⟩⟩, by rw [e]; simp⟩)
            have HC1 := Lib.hid (show ∀ W : World, W.heap = (w'.alloc (.cells #[] 3)).heap → ((l.take 0).map fun k : Nat => (k : Int)).length = 0 ∧ ∃ ad, some (⟨gL, 0, none⟩ : Addr) = some ad ∧ ∀ j, j < 0 → W.cell? (ad.add j) = some (.int .i64 (((l.take 0).map fun k : Nat => (k : Int)).getD j 0)) from fun W e =>
              ⟨by rw [List.length_map, List.length_take, HLL.out]; first | done | omega, _, rfl, fun j hj => by
                first | (exfalso; omega) | (rw [row_slice, cells W (fun b o hb => (ex _ _ e b o).trans (al.cell (p := ⟨b, o, none⟩) hb)) j (by omega), mapn_get]; simp [List.getD_eq_getElem?_getD, hj])⟩)
            have HC2 := Lib.hid (show ∀ Wx w4 W : World, Below w'.heap.size Wx w4 → Wx.heap = (w'.alloc (.cells #[] 3)).heap → W.heap = w4.heap → ((l.drop (0 + 1)).map fun k : Nat => (k : Int)).length = ll - (0 + 1) ∧ ∃ ad, (if capL = 0 + 1 then some (⟨gL, 0, none⟩ : Addr) else some ⟨gL, 0 + 1, none⟩) = some ad ∧ ∀ j, j < ll - (0 + 1) → W.cell? (ad.add j) = some (.int .i64 (((l.drop (0 + 1)).map fun k : Nat => (k : Int)).getD j 0)) from fun Wx w4 W hb e e2 =>
              ⟨by rw [List.length_map, List.length_drop, HLL.out], by
                by_cases hcq1 : capL = 0 + 1
                · exact ⟨_, if_pos hcq1, fun j hj => by omega⟩
                refine ⟨_, if_neg hcq1, fun j hj => ?_⟩
                have ea : (⟨gL, 0 + 1, none⟩ : Addr).add j = ⟨gL, 0 + 1 + j, none⟩ := by unfold Addr.add; split <;> simp_all
                rw [ea, cells W (fun b o hb2 => (ex _ _ e2 b o).trans ((hb.cell (p := ⟨b, o, none⟩) hb2).trans ((ex _ _ e b o).trans (al.cell (p := ⟨b, o, none⟩) hb2)))) _ (by omega), mapn_get]
                simp [List.getD_eq_getElem?_getD, Nat.add_comm]⟩)
            have HO4 := Lib.hid (show ∀ w4 W : World, ∀ v4 xs, OwnI w4 w'.heap.size v4 xs → w'.heap.size ≤ w4.heap.size → W.heap = w4.heap → OwnI W w'.heap.size v4 xs ∧ w'.heap.size ≤ W.heap.size from fun w4 W v4 xs h hs e => by
              refine ⟨⟨h.1, ?_⟩, by rw [e]; exact hs⟩
              rcases h.2 with h2 | ⟨g, cap, cur, e2, hb', hg, r⟩
              · exact .inl h2
              · exact .inr ⟨g, cap, cur, e2, hb', by rw [e]; exact hg, r⟩)
            have HK5 := Lib.hid (show ∀ Wx w4 Wy w5 : World, Below w'.heap.size Wx w4 → Below w'.heap.size Wy w5 → Wx.heap = (w'.alloc (.cells #[] 3)).heap → Wx.os = w'.os → Wx.tape = w'.tape → Wx.output = w'.output → Wy.heap = w4.heap → Wy.os = w4.os → Wy.tape = w4.tape → Wy.output = w4.output → Below w'.heap.size w' w5 from fun Wx w4 Wy w5 b4 b5 e1 e2 e3 e4 f1 f2 f3 f4 => by
              have c1 : Below w'.heap.size w' Wx := ⟨e2, e3, e4, by rw [e1]; exact al.size, fun k hk => by rw [e1]; exact al.block k hk⟩
              have c2 : Below w'.heap.size w4 Wy := ⟨f2, f3, f4, by rw [f1]; exact Nat.le_refl _, fun k hk => by rw [f1]⟩
              exact ((c1.trans b4).trans c2).trans b5)
            have hl2 : (([] : List Int) ++ (l.take 0).map fun k : Nat => (k : Int)).length + (ll - (0 + 1)) ≤ 1000000 := by rw [List.nil_append, List.length_map, List.length_take, HLL.out]; omega
            have hl1 : ([] : List Int).length + 0 ≤ 1000000 := by simp only [List.length_nil]; omega
            have HX := Lib.hid (And.intro h1 (And.intro h2 (And.intro h3 h4)))
            have hq1 : IntKind.i64.wrap ((0 : Int) + 1) = (0 : Int) + 1 := by rw [IntKind.wrap_i64]; omega
            have hq2 : ((0 : Int) + 1).toNat = 0 + 1 := by omega
            have hq3 : 0 ≤ (0 : Int) + 1 := by omega
            have hq4 : (0 : Int) + 1 ≤ (ll : Int) := by omega
            have hq5 : (0 : Int) ≤ (ll : Int) := by omega
            have hq6 : (0 : Int) ≤ (capL : Int) := by omega
            have hq7 : (0 : Int) + 1 ≤ (capL : Int) := by omega
            have hw1 : IntKind.i64.wrap 1 = 1 := by rw [IntKind.wrap_i64]; rfl
            have hw2 : (1 : Int).toNat = 1 := rfl
            have hz1 : (1 : Int) ≤ (ll : Int) := by omega
            have hz2 : (1 : Int) ≤ (capL : Int) := by omega
            have hz3 : 1 ≤ ll := by omega
            have hz4 : 1 ≤ capL := by omega
            clear h1 h2 h3 h4 hAL' cells ex al hgl
            go_region_held3 (fun w' => True) (first | trivial | go_keep)
              (first | ((refine step_append_spread w'.heap.size v4 _ rfl _ (HO4.out _ _ _ _ o4 (Nat.le_trans (HN1.out _ rfl).2 b4.size) rfl) _ (ll - (0 + 1)) _ _ (HC2.out _ _ _ b4 rfl rfl) rfl hl2 ?_; intro v5 w5 o5 b5)) | ((refine step_append_spread w'.heap.size (.slice (some ⟨w'.heap.size, 0, none⟩) 0 0) [] rfl _ (HN1.out _ rfl) _ 0 _ _ (HC1.out _ rfl) rfl hl1 ?_; intro v4 w4 o4 b4)) | fail)
            have HZ := Lib.hid (And.intro o5 (HK5.out _ _ _ _ b4 b5 rfl rfl rfl rfl rfl rfl rfl rfl))
            clear o4 o5 b4 b5 hq1 hq2 hq3 hq4 hq5 hq6 hq7 hz1 hz2 hz3 hz4 hw1 hw2
            go_wp2
            all_goals go_roundg (gk - 1)
            all_goals (try omega)
            all_goals
              obtain ⟨h1, h2, h3, h4⟩ := HX.out
              obtain ⟨o5, b5⟩ := HZ.out
              have hp := perm_step HP.out (at_ := 0) (by rw [HLL.out]; omega)
              rw [HY.out] at hp
              refine ⟨k + 1, l.take 0 ++ l.drop (0 + 1), o ++ [y], by go_num, by omega, by simp [hol], by rw [List.length_append, List.length_take, List.length_drop, HLL.out]; omega, Lib.hid hp, Lib.hid ?_, Lib.hid ?_, Lib.hid ?_, Lib.hid ((HB.out.trans h2).trans (b5.mono (by have := HB.out.size; have := h2.size; omega)))⟩
              · rw [List.nil_append, ← List.map_append] at o5
                exact o5.mono (by have := HB.out.size; have := h2.size; omega)
              · have := h1.keep b5
                rw [List.map_append]
                exact this
              · intro z hz e
                have := h1.blockLt e
                have := o5.blockGe hz
                omega
        · have ek : n = k := by omega
          subst ek
          have hl0 : l = [] := List.eq_nil_of_length_eq_zero (by omega)
          subst hl0
          go_wp2
          go_ret
          exact ⟨⟨o, _, rfl, by have := HP.out; rwa [List.append_nil] at this, HO6.out⟩, HB.out⟩
end Go.Proofs.YtmfgffmlnfimcaaDoor
