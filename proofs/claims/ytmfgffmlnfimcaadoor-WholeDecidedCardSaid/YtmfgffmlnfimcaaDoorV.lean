/- The walk of exact.Knapsack. -/
import Derived.Test.YtmfgffmlnfimcaaDoorU
import Derived.Test.YtmfgffmlnfimcaaDoorR
import Derived.Laws.AppendOwnNone
namespace Go.Proofs.YtmfgffmlnfimcaaDoor
open Go Go.RowKit Go.Shelf Go.Sort
attribute [local go_sem] Oper.semAt_some

theorem cellsB {B : Nat} {w w' : World} (h : Below B w w') {p : Addr} {u : Value} (hp : p.block < B) (hc : w.cell? p = some u) : w'.cell? p = some u := (h.cell hp).trans hc

theorem below_eqh {w W w' : World} (h : Below W.heap.size W w') (a : W.heap = w.heap) (b : W.os = w.os) (c : W.tape = w.tape) (d : W.output = w.output) : Below w.heap.size w w' :=
  ⟨h.os.trans b, h.tape.trans c, h.output.trans d, by rw [← a]; exact h.size, fun k hk => by rw [← a] at hk ⊢; exact h.block k hk⟩

/-- Loads at the end: the law at a step of a region that draws its order. -/
theorem step_append_lds {ops : Array Oper} {dst ty pos af} {a : Act} {K : Act → World → Prop} {Q : Exit → Act → World → Prop} {E : Prop} {s x : Operand} (base : Nat) (v : Value) (ls : List LdB) (hs : a.eval s = v) (w : World) (hown : OwnL w base v ls) (base2 : Nat) (v2 : Value) (out : List LdB) (hown2 : OwnL w base2 v2 out)
    (hx : a.eval x = v2) (hl : ls.length ≤ 300000) (hl2 : out.length ≤ 300000) (hb : base ≤ w.heap.size)
    (h : ∀ v' w', OwnL w' base v' (ls ++ out) → Below base w w' → K (a.put dst v') w') :
    if Region.wanted ⟨dst, .call { callee := .builtin .append, args := #[s, x], argTypes := #[73, 73] }, ty, pos, af, none⟩ (yielded ops a.tmps) = true then Oper.wp Tryd.prog ⟨dst, .call { callee := .builtin .append, args := #[s, x], argTypes := #[73, 73] }, ty, pos, af, none⟩ a w K Q else E := by
  obtain ⟨i, hi, hz0, hz1, hz2⟩ := info_parts (P := Tryd.prog) (e := 72) (z := .agg #[.int .i64 0, .int .i64 0, .int .u64 0, .int .u64 0]) (size := 4) (bytes := 32) (by kernel_rfl)
  rw [if_pos (by simp [Region.wanted])]
  have key : ∃ v' w', (Builtin.append_ #[73, 73] ty #[v, v2]).run Tryd.prog w = .ok v' w' ∧ OwnL w' base v' (ls ++ out) ∧ Below base w w' := by
    rcases hown2.2 with ⟨e2, e3⟩ | ⟨g, cap, cur, e2, hg2, hg, hnc, hcm, hcs, ht⟩
    · have e4 : out = [] := List.eq_nil_of_length_eq_zero e3
      subst e4
      rw [e2]
      exact ⟨v, w, run_append_owned_none (P := Tryd.prog) (w := w) base 73 ty 72 i 4 Tryd.underlying73 hi v ls.length (ls.flatMap ldC) hown, by simpa using hown, Below.refl _ _⟩
    · have hn : ∀ j u, (out.flatMap ldC)[j]? = some u → w.cell? ((⟨g, 0, none⟩ : Addr).add j) = some u := by
        intro j u hj
        have ha : (⟨g, 0, none⟩ : Addr).add j = ⟨g, j, none⟩ := by unfold Addr.add; split <;> simp_all
        rw [ha, blk_cell hg]
        have hjl : j < out.length * 4 := by
          rw [← flat_length out]
          rcases Nat.lt_or_ge j (out.flatMap ldC).length with h1 | h1
          · exact h1
          · rw [List.getElem?_eq_none h1] at hj; cases hj
        have h4 : (cur.toList.take (out.length * 4))[j]? = (out.flatMap ldC)[j]? := by rw [ht]
        rw [List.getElem?_take, if_pos hjl, hj, Array.getElem?_toList] at h4
        exact h4
      have h1 : ∀ u ∈ out.flatMap ldC, u.oneCell' = true := by
        intro u hu
        obtain ⟨l, _, hu⟩ := List.mem_flatMap.1 hu
        simp [ldC] at hu
        rcases hu with h | h | h | h <;> subst h <;> rfl
      obtain ⟨v', w', hr, h2, h3, _⟩ := run_append_own_at (P := Tryd.prog) w base 73 ty 72 i _ 4 32 Tryd.underlying73 hi hz0 hz1 hz2 rfl (by decide) v ls.length (ls.flatMap ldC) hown ⟨g, 0, none⟩ out.length cap (out.flatMap ldC) (flat_length out) hn h1 (by unfold maxLen; omega) (by omega) hb
      refine ⟨v', w', by rw [e2]; exact hr, ?_, hown.below h3 hb⟩
      unfold OwnL
      rw [List.length_append, List.flatMap_append]
      exact h2
  obtain ⟨v', w', hr, h2, h3⟩ := key
  unfold Oper.wp execOp
  simp only [resolve, invoke, builtin, Sem.run_bind, Sem.run_pure, Result.andThen_ok, List.map_toArray, List.map_cons, List.map_nil, hs, hx, hr]
  exact h v' w' h2 h3

theorem Row.kept {W W' : World} {row : Option Nat} {g : Nat} {t : TypeId} {n : Nat} {f : Nat → Value} (h : Row W g t n f) (hg : W.grownBy W' row) (hr : ∀ r, row = some r → ∃ o : Obj, W.heap[r]? = some o ∧ o.isCells = false) : Row W' g t n f := by
  obtain ⟨cs, h1, h2⟩ := h
  refine ⟨cs, ?_, h2⟩
  have := grownBy_keeps_cells hg hr h1 rfl
  rw [this]; exact h1

/-- Which items have come. -/
def ind (m : Nat) (pre : List (InSet m)) (j : Nat) : Int := if j ∈ pre.map (·.1) then 1 else 0
theorem ind_snoc (m : Nat) (pre : List (InSet m)) (x : InSet m) (j : Nat) : ind m (pre ++ [x]) j = upd (ind m pre) x.1 1 j := by
  unfold ind upd
  by_cases e : j = x.1
  · simp [e]
  · simp [e]

theorem ints_arrI {w : World} {g n : Nat} {f : Nat → Int} (h : Arr w g n f) : IntsAt w (some ⟨g, 0, none⟩) ((List.range n).map f) := by
  intro _
  refine ⟨_, rfl, fun j hj => ?_⟩
  have hjn : j < n := by simpa using hj
  have ha : (⟨g, 0, none⟩ : Addr).add j = ⟨g, j, none⟩ := by unfold Addr.add; split <;> simp_all
  rw [ha, h.cell hjn]
  simp [List.getD_eq_getElem?_getD, hjn]
theorem getD_rangeI {n : Nat} (f : Nat → Int) {j : Nat} (hj : j < n) : ((List.range n).map f).getD j 0 = f j := by
  simp [List.getD_eq_getElem?_getD, hj]

theorem all_val (m : Int) (w : World) : Calls Tryd.prog 44 #[.agg #[.int .u64 m, .int .u64 0]] w fun e w' => e = .returned (.func (.func 51) #[] #[.pointer (some ⟨w.heap.size, 0, none⟩)]) ∧ w' = w.alloc (.cells #[.int .u64 m, .int .u64 0] 56) := by
  go_enter Tryd.func44, Tryd.ntmps44
  go_wp2
  go_ret
  exact ⟨rfl, rfl⟩

set_option maxRecDepth 100000 in
set_option maxHeartbeats 4000000 in
theorem knapsack_any (I : Inst) (hI : WF I) (hk : I.kind = 1) (h18 : I.n ≤ 18) (v : Value) (w : World) (hv : InstAt w v I) (hT : TabW w) : Calls Tryd.prog 30 #[v] w (Tells I w) := by
  obtain ⟨n, hn, hn1, hn2, hwl, hvl, hcs, hcap, hok⟩ := hI.knap hk
  have htk := fun W hv => takes_any I hI v W hv ⟨fun _ => h18, by omega⟩
  have htd := fun A c x W hv hA hx => told_any I hI v A c x W hv hA hx
  rw [hk] at htk
  have HTK := Lib.hid htk
  have HTD := Lib.hid htd
  have HV := Lib.hid hv
  have HK := Lib.hid hk
  have HN := Lib.hid hn
  have HWL := Lib.hid hwl
  have HVL := Lib.hid hvl
  have HOK := Lib.hid hok
  have HTAB := Lib.hid hT
  obtain ⟨A1, c1, A2, c2, A3, c3, rfl, hc1, hc2, -, -, -, -, -, h8, h9, -⟩ := hv
  have H8 := Lib.hid h8
  have H9 := Lib.hid h9
  rw [hwl] at hc1
  rw [hvl] at hc2
  rw [hwl, hvl, hcs, List.length_nil, hn, hk] at HV HTK HTD ⊢
  have hn18 : n ≤ 18 := by omega
  have hcapb := hcap
  unfold numOk at hcapb
  have hmk := mk_ints0 n (by omega)
  clear htk htd hI hk hwl hvl hok h8 h9 hn hcs hT hcap h18
  obtain ⟨Cap, hCap⟩ : ∃ x, I.cap = x := ⟨_, rfl⟩
  rw [hCap] at HV HTK HTD hcapb ⊢
  have HCAP := Lib.hid hCap
  clear hCap
  refine (callsIn_wide (n := 3)).1 (callsIn_of_wp_marks Tryd.func30 rfl trivial ?_ rfl)
  simp only [Tryd.ntmps30, List.size_toArray, List.length_cons, List.length_nil, Nat.reduceAdd, Nat.reduceSub, Array.replicate_succ, Array.replicate_zero, List.push_toArray, List.append_toArray, List.nil_append, List.cons_append]
  refine wpIn_wide.2 ?_
  go_wp2_with fail
  refine (HTK.out _ (HV.out.keep ((Below.refl _ _).alloc (Nat.le_refl _) _))).mono ?_
  rintro e w1 ⟨rfl, hb1⟩
  have HB1 := Lib.hid hb1
  obtain ⟨hc1, hf1⟩ := bcell hb1
  have hz1 : w.heap.size < w1.heap.size := by have := hb1.size; simp at this; omega
  have hbx : w1.heap[w.heap.size]? = some (.cells #[.int .i64 1, .int .i64 n, .int .i64 Cap, .slice A1 n c1, .slice A2 n c2, .slice A3 0 c3] 25) := heap_keep (heap_new w _ _ rfl) hb1
  have HBX := Lib.hid hbx
  clear hb1 hbx
  obtain ⟨z0, hz0⟩ : ∃ z0 : LdB, z0.1 = ⟨0, 0, 0⟩ := ⟨⟨⟨0, 0, 0⟩, ⟨by decide, by decide, by decide, by decide, by decide⟩⟩, rfl⟩
  have hz0c : ldC z0 = [.int .i64 0, .int .i64 0, .int .u64 0, .int .u64 0] := by unfold ldC; rw [hz0]; rfl
  have HZ0 := Lib.hid (And.intro hz0 hz0c)
  clear hz0 hz0c
  go_wp2
  clear hc1 hf1
  go_loopg [6, 22] n (fun g v6 v22 wr => ∃ (k : Nat) (ls : List LdB), v22 = .int .i64 k ∧ k + g = n ∧ Hid (DP (fun j => I.ws.getD j 0) (fun j => I.vs.getD j 0) Cap k ls) ∧ Hid (OwnL wr w1.heap.size v6 ls) ∧ Hid (Below w1.heap.size w1 wr))
  case atStart =>
    refine ⟨0, [z0], rfl, by omega, Lib.hid (DP.start _ _ hcapb.1 z0 HZ0.out.1), Lib.hid ?_, Lib.hid ((Below.refl _ _).alloc (Nat.le_refl _) _)⟩
    refine ⟨rfl, .inr ⟨w1.heap.size, 1, _, rfl, Nat.le_refl _, heap_new _ _ _ rfl, Nat.le_refl _, by decide, rfl, ?_⟩⟩
    simp [HZ0.out.2]
  case round =>
    obtain ⟨k, ls, rfl, hk, HD, HO, HB⟩ := hrel
    by_cases ck : k < n
    · have hki : (k : Int) < (n : Int) := by omega
      have hok1 := HOK.out k ck
      unfold numOk at hok1
      obtain ⟨⟨wa, wb⟩, va, vb⟩ := hok1
      have hoks := HD.out.ok (by omega) (fun j hj => (HOK.out j (by omega)).1) (fun j hj => (HOK.out j (by omega)).2)
      have hlen := HD.out.len
      have hlen2 : ls.length ≤ 131072 := Nat.le_trans hlen (Nat.le_trans (Nat.pow_le_pow_right (n := 2) (by decide) (show k ≤ 17 by omega)) (by decide))
      have hne := HD.out.ne hcapb.1
      obtain ⟨ad1, e1, hcw⟩ := H8.out.at_ (j := k) (by rw [HWL.out]; exact ck)
      obtain ⟨ad2, e2, hcv⟩ := H9.out.at_ (j := k) (by rw [HVL.out]; exact ck)
      obtain ⟨wt, hwt⟩ : ∃ x, I.ws.getD k 0 = x := ⟨_, rfl⟩
      obtain ⟨val, hval⟩ : ∃ x, I.vs.getD k 0 = x := ⟨_, rfl⟩
      have HNX := Lib.hid (fun out res h1 h2 => HD.out.next (out := out) (res := res) wa h1 h2)
      rw [hwt] at hcw wa wb hoks HNX
      rw [hval] at hcv va vb hoks HNX
      have hbw : Below w.heap.size w w1 := keep_box HB1.out
      have hlt1 := World.block_lt_of_cell? w _ hcw
      have hlt2 := World.block_lt_of_cell? w _ hcv
      have hcw1 : wr.cell? (ad1.add k) = some (.int .i64 wt) := cellsB (hbw.trans (HB.out.mono (by omega))) hlt1 hcw
      have hcv1 : wr.cell? (ad2.add k) = some (.int .i64 val) := cellsB (hbw.trans (HB.out.mono (by omega))) hlt2 hcv
      have hlt1' : (ad1.add k).block < w1.heap.size := by omega
      have hlt2' : (ad2.add k).block < w1.heap.size := by omega
      have hbx : wr.heap[w.heap.size]? = some (.cells #[.int .i64 1, .int .i64 n, .int .i64 Cap, .slice A1 n c1, .slice A2 n c2, .slice A3 0 c3] 25) := (HB.out.block _ hz1).trans HBX.out
      have b2 := blk_cell hbx 2
      have b3 := blk_cell hbx 3
      have b4 := blk_cell hbx 4
      obtain ⟨g, cap, rfl, hg1, hg2, hg3, -, hA, -⟩ := HO.out.lies hne
      have hwith := fun (W : World) (hW : W.heap = wr.heap) => with_loads W g cap ls k wt val Cap (by rw [hW]; exact hg2) (fun j hj => by
        obtain ⟨a, b, c, d⟩ := hA j hj
        refine ⟨?_, ?_, ?_, ?_⟩ <;> (rw [World.cell?_of_block (w := wr) (by rw [hW])]; assumption)) (by omega) (by omega) ⟨wa, wb⟩ ⟨va, vb⟩ hoks
      have HWI := Lib.hid hwith
      have hbs1 := HB.out.size
      subst e1 e2
      have hbl : ∀ W w4 : World, Below W.heap.size W w4 → W.heap = wr.heap → W.os = wr.os → W.tape = wr.tape → W.output = wr.output → Below wr.heap.size wr w4 := fun W w4 h a b c d => below_eqh h a b c d
      have HBL := Lib.hid hbl
      have hb1r : w1.heap.size ≤ wr.heap.size := hbs1
      have hsz : ∀ W w4 : World, Below W.heap.size W w4 → W.heap = wr.heap → w1.heap.size ≤ w4.heap.size := fun W w4 h a => by have := h.size; rw [a] at this; omega
      have hbest : ∀ (W w4 w5 : World) (v5 : Value) (out : List LdB), Below W.heap.size W w4 → W.heap = wr.heap → WithR wt val Cap k ls out → OwnL w5 w1.heap.size v5 (ls ++ out) → Below w1.heap.size w4 w5 →
          Calls Tryd.prog 42 #[v5] w5 fun e w' => (∃ v' res, e = .returned v' ∧ BestR (ls ++ out) res ∧ OwnL w' w1.heap.size v' res) ∧ Below w1.heap.size w5 w' := fun W w4 w5 v5 out h1 h2 h3 h4 h5 =>
        best_any w5 w1.heap.size v5 (ls ++ out) h4 (by simp [hne]) (by have := h3.len; rw [List.length_append]; omega) (Nat.le_trans (hsz W w4 h1 h2) h5.size)
      have hol : ∀ out, WithR wt val Cap k ls out → out.length ≤ 300000 := fun out h => by have := h.len; omega
      have hkeep : ∀ W w4 : World, Below W.heap.size W w4 → W.heap = wr.heap → W.os = wr.os → W.tape = wr.tape → W.output = wr.output → OwnL w4 w1.heap.size (.slice (some ⟨g, 0, none⟩) ls.length cap) ls := fun W w4 h a b c d => HO.out.keep (hbl W w4 h a b c d)
      have hl3 : ls.length ≤ 300000 := by omega
      have HSZ := Lib.hid hsz
      have HBEST := Lib.hid hbest
      have HOL := Lib.hid hol
      have HKEEP := Lib.hid hkeep
      clear hsz hbest hol hkeep
      clear hwith hA hoks hbw hbx hwt hval hcw hcv hlen hbl
      go_upto_region 8 with (fail)
      go_region_held3 (fun w' => w'.cell? ⟨w.heap.size, 2, none⟩ = some (.int .i64 Cap) ∧ w'.cell? ⟨w.heap.size, 3, none⟩ = some (.slice (some ad1) n c1) ∧ w'.cell? ⟨w.heap.size, 4, none⟩ = some (.slice (some ad2) n c2) ∧ w'.cell? (ad1.add k) = some (.int .i64 wt) ∧ w'.cell? (ad2.add k) = some (.int .i64 val))
        (first | go_keep | (go_split_ands; refine ⟨?_, ?_, ?_, ?_, ?_⟩ <;> exact cellsB hb6 (by assumption) (by assumption)) | (go_split_ands; refine ⟨?_, ?_, ?_, ?_, ?_⟩ <;> exact cellsB hb5 (by assumption) (by assumption)) | (go_split_ands; refine ⟨?_, ?_, ?_, ?_, ?_⟩ <;> exact cell_keep hb4 (by assumption)))
        (first | (go_at_call 43; refine (HWI.out _ (by rfl)).mono ?_; rintro e w4 ⟨⟨v4, out, rfl, hwr, hown4⟩, hb4⟩) | (go_at_call 42; refine (HBEST.out _ _ _ _ _ hb4 rfl hwr hown5 hb5).mono ?_; rintro e w6 ⟨⟨v6, res, rfl, hbr, hown6⟩, hb6⟩) | ((refine step_append_lds w1.heap.size _ ls (by rfl) _ (HKEEP.out _ _ hb4 rfl rfl rfl rfl) _ v4 out hown4 (by rfl) hl3 (HOL.out _ hwr) (HSZ.out _ _ hb4 rfl) ?_; intro v5 w5 hown5 hb5)) | fail)
      have HX := Lib.hid (And.intro (HNX.out _ _ hwr hbr) (And.intro hown6 (HB.out.trans ((((HBL.out _ _ hb4 rfl rfl rfl rfl).mono hb1r).trans hb5).trans hb6))))
      clear hwr hbr hown4 hown5 hown6 hb4 hb5 hb6
      go_wp2
      go_roundg (gk - 1)
      case measure => omega
      case rel => exact ⟨k + 1, res, by go_num, by omega, Lib.hid HX.out.1, Lib.hid HX.out.2.1, Lib.hid HX.out.2.2⟩
    · have ek : k = n := by omega
      subst ek
      have hne := HD.out.ne hcapb.1
      obtain ⟨g, cap, rfl, hg1, hg2, hg3, -, hA, -⟩ := HO.out.lies hne
      have hpos : 0 < ls.length := List.length_pos_iff.2 hne
      have hlen2 : ls.length ≤ 262144 := Nat.le_trans HD.out.len (Nat.le_trans (Nat.pow_le_pow_right (n := 2) (by decide) hn18) (by decide))
      obtain ⟨x0, x1, x2, x3⟩ := hA 0 hpos
      have HA := Lib.hid hA
      have HM0 := Lib.hid (get_mem ls hpos)
      obtain ⟨l0, hl0⟩ : ∃ l : LdB, ls[0]! = l := ⟨_, rfl⟩
      rw [hl0, Nat.zero_mul] at x0 x1 x2
      rw [Nat.zero_mul] at x3
      have HL0 := Lib.hid hl0
      obtain ⟨wb, rfl⟩ : ∃ wb : World, wb = wr := ⟨_, rfl⟩
      have hki : ¬ (k : Int) < (k : Int) := by omega
      have hpi : (0 : Int) < (ls.length : Int) := by omega
      clear hA hl0
      go_wp2
      clear x0 x1 x2 x3
      go_loopg [49] ls.length (fun gg v49 wr => ∃ (j : Nat) (t : LdB), v49 = .int .i64 j ∧ j + gg = ls.length ∧ Hid (t ∈ ls ∧ ∀ l ∈ ls.take j, l.1.v ≤ t.1.v) ∧ Hid (wr.heap[wb.heap.size]? = some (.cells #[.int .i64 t.1.w, .int .i64 t.1.v, .int .u64 (t.1.s : Nat), .int .u64 0] 72 (0, 0))) ∧ Hid (Below wb.heap.size wb wr))
      case atStart => exact ⟨0, l0, rfl, by omega, Lib.hid ⟨by rw [← HL0.out]; exact HM0.out, by simp⟩, Lib.hid (heap_new _ _ _ rfl), Lib.hid ((Below.refl _ _).alloc (Nat.le_refl _) _)⟩
      case round =>
        obtain ⟨j, t, rfl, hj, HT, HC, HBB⟩ := hrel
        have y0 := blk_cell HC.out 0
        have y1 := blk_cell HC.out 1
        have y2 := blk_cell HC.out 2
        have y3 := blk_cell HC.out 3
        have yf : ∀ i, wr.frozen? ⟨wb.heap.size, i, none⟩ = false := fun i => blk_free HC.out i
        have yl := heap_lt HC.out
        by_cases cj : j < ls.length
        · have hji : (j : Int) < (ls.length : Int) := by omega
          obtain ⟨x0, x1, x2, x3⟩ := (HA.out.keep HBB.out) j cj
          have HM := Lib.hid (And.intro (get_mem ls cj) (take_snoc ls cj))
          obtain ⟨l, hl0⟩ : ∃ l : LdB, ls[j]! = l := ⟨_, rfl⟩
          rw [hl0] at x0 x1 x2 HM
          obtain ⟨lv, hlv⟩ : ∃ x, l.1.v = x := ⟨_, rfl⟩
          obtain ⟨tv, htv⟩ : ∃ x, t.1.v = x := ⟨_, rfl⟩
          rw [hlv] at x1
          rw [htv] at y1
          have HE := Lib.hid (And.intro hlv htv)
          obtain ⟨lw, hlw⟩ : ∃ x, l.1.w = x := ⟨_, rfl⟩
          obtain ⟨lS, hlS⟩ : ∃ x, l.1.s = x := ⟨_, rfl⟩
          rw [hlw] at x0
          rw [hlS] at x2
          have HE2 := Lib.hid (And.intro hlw hlS)
          generalize t.1.w = tw at y0
          generalize t.1.s = tS at y2
          clear hl0 hlv htv hlw hlS
          by_cases cv : tv < lv
          · go_wp2
            go_roundg (gk - 1)
            case measure => omega
            case rel =>
              refine ⟨j + 1, l, by go_num, by omega, Lib.hid ⟨HM.out.1, fun a ha => ?_⟩, Lib.hid ?_, Lib.hid ?_⟩
              · rw [HM.out.2] at ha
                rcases List.mem_append.1 ha with ha | ha
                · have := HT.out.2 a ha
                  have e := HE.out
                  omega
                · obtain rfl : a = l := by simpa using ha
                  exact Int.le_refl _
              · have h := heap_old' (heap_set (heap_set (heap_set (heap_set HC.out 0 (.int .i64 lw)) 1 (.int .i64 lv)) 2 (.int .u64 lS)) 3 (.int .u64 0)) (.cells #[.int .i64 lw, .int .i64 lv, .int .u64 lS, .int .u64 0] 72)
                rw [HE.out.1, HE2.out.1, HE2.out.2]
                exact h
              · exact ((((HBB.out.setCell (p := ⟨wb.heap.size, 0, none⟩) (Nat.le_refl _) _).setCell (p := ⟨wb.heap.size, 1, none⟩) (Nat.le_refl _) _).setCell (p := ⟨wb.heap.size, 2, none⟩) (Nat.le_refl _) _).setCell (p := ⟨wb.heap.size, 3, none⟩) (Nat.le_refl _) _).alloc (by have := HBB.out.size; simpa [World.setCell] using this) _
          · go_wp2
            go_roundg (gk - 1)
            case measure => omega
            case rel =>
              refine ⟨j + 1, t, by go_num, by omega, Lib.hid ⟨HT.out.1, fun a ha => ?_⟩, Lib.hid (heap_old' HC.out _), Lib.hid (HBB.out.alloc HBB.out.size _)⟩
              rw [HM.out.2] at ha
              rcases List.mem_append.1 ha with ha | ha
              · exact HT.out.2 a ha
              · obtain rfl : a = l := by simpa using ha
                have e := HE.out
                omega
        · have ej : j = ls.length := by omega
          have hTm := HT.out
          rw [ej, List.take_length] at hTm
          have HTM := Lib.hid hTm
          have hsb := HB.out.size
          have hsb2 := HBB.out.size
          have hbx : wr.heap[w.heap.size]? = some (.cells #[.int .i64 1, .int .i64 k, .int .i64 Cap, .slice A1 k c1, .slice A2 k c2, .slice A3 0 c3] 25) := (HBB.out.block _ (by omega)).trans ((HB.out.block _ hz1).trans HBX.out)
          have HBXR := Lib.hid hbx
          have hbw := heap_lt hbx
          have hcb : ∀ j, wr.cell? ⟨w.heap.size, j, none⟩ = #[.int .i64 1, .int .i64 k, .int .i64 Cap, .slice A1 k c1, .slice A2 k c2, .slice A3 0 c3][j]? := fun j => blk_cell hbx j
          have hBw : Below w.heap.size w wr := ((keep_box HB1.out).trans (HB.out.mono (by omega))).trans (HBB.out.mono (by omega))
          have HBW := Lib.hid hBw
          have hts := t.2.2.2.2.2
          obtain ⟨tS, htS⟩ : ∃ x, t.1.s = x := ⟨_, rfl⟩
          rw [htS] at y2 hts
          have HTS := Lib.hid htS
          have HTB := Lib.hid hts
          have hs2 := (HD.out.sound t HT.out.1).1
          rw [htS] at hs2
          have HS2 := Lib.hid hs2
          clear hs2
          clear hbx hTm hBw htS hts
          go_wp2_with fail
          refine (all_val _ _).mono ?_
          rintro e w5 ⟨rfl, rfl⟩
          go_wp2_with fail
          have hX := heap_old' (heap_old' (heap_new wr (.cells (madeCells #[.int .i64 0] k) 3) _ rfl) (.cells #[.slice (some ⟨wr.heap.size, 0, none⟩) k k] 22)) (.cells #[.int .u64 (tS : Nat), .int .u64 0] 56)
          have hRw : Row (((wr.alloc (.cells (madeCells #[.int .i64 0] k) 3)).alloc (.cells #[.slice (some ⟨wr.heap.size, 0, none⟩) k k] 22)).alloc (.cells #[.int .u64 (tS : Nat), .int .u64 0] 56)) wr.heap.size 3 k (fun _ => .int .i64 0) := ((Row.made wr 3 (.int .i64 0) k).alloc _).alloc _
          have hSl : (((wr.alloc (.cells (madeCells #[.int .i64 0] k) 3)).alloc (.cells #[.slice (some ⟨wr.heap.size, 0, none⟩) k k] 22)).alloc (.cells #[.int .u64 (tS : Nat), .int .u64 0] 56)).cell? ⟨wr.heap.size + 1, 0, none⟩ = some (.slice (some ⟨wr.heap.size, 0, none⟩) k k) :=
            blk_cell (heap_old' (heap_new (wr.alloc (.cells (madeCells #[.int .i64 0] k) 3)) (.cells #[.slice (some ⟨wr.heap.size, 0, none⟩) k k] 22) _ (by simp)) _) 0
          have hNw := heap_new ((wr.alloc (.cells (madeCells #[.int .i64 0] k) 3)).alloc (.cells #[.slice (some ⟨wr.heap.size, 0, none⟩) k k] 22)) (.cells #[.int .u64 (tS : Nat), .int .u64 0] 56) (wr.heap.size + 1 + 1) (by simp)
          have hB3 : Below wr.heap.size wr (((wr.alloc (.cells (madeCells #[.int .i64 0] k) 3)).alloc (.cells #[.slice (some ⟨wr.heap.size, 0, none⟩) k k] 22)).alloc (.cells #[.int .u64 (tS : Nat), .int .u64 0] 56)) := (((Below.refl _ _).alloc (Nat.le_refl _) _).alloc (by simp) _).alloc (by simp; omega) _
          have hz3 : (((wr.alloc (.cells (madeCells #[.int .i64 0] k) 3)).alloc (.cells #[.slice (some ⟨wr.heap.size, 0, none⟩) k k] 22)).alloc (.cells #[.int .u64 (tS : Nat), .int .u64 0] 56)).heap.size = wr.heap.size + 3 := by simp
          generalize (((wr.alloc (.cells (madeCells #[.int .i64 0] k) 3)).alloc (.cells #[.slice (some ⟨wr.heap.size, 0, none⟩) k k] 22)).alloc (.cells #[.int .u64 (tS : Nat), .int .u64 0] 56)) = W0 at *
          have hT0 : TabW W0 := HTAB.out.keep (HBW.out.trans (hB3.mono (by omega)))
          have hXpos := HTAB.out.pos
          refine (wpIn_wide (n := 3)).1 ?_
          refine' wpIn_rangeFunc_ownF (F := Fence.wide) (n := 3) rfl (by decide) (gf := 51) (lb := #[.pointer (some ⟨wr.heap.size + 1 + 1, 0, none⟩)]) (by rfl) trivial (enters_of Tryd.func51 (by kernel_rfl) rfl)
            (all_stops 2 (by decide) (wr.heap.size + 1 + 1) tS (fun q => q = wr.heap.size ∨ W0.heap.size ≤ q) (by have := HTB.out; omega) W0 (by omega) (by omega) (by omega) hNw hT0) (fun h k => h.trans k) (fun W l o o' h1 h2 _ _ => ?hKb) (Below.refl _ _) (fun _ => rfl)
            (fun pre W => (W.cell? ⟨wr.heap.size + 1, 0, none⟩ = some (.slice (some ⟨wr.heap.size, 0, none⟩) k k) ∧ Arr W wr.heap.size k (ind tS pre)) ∧ Below wr.heap.size wr W)
            (fun _ _ _ => False)
            (OwnFrom.and (Own.from (fun s A B row hs hg hr => ⟨cell_kept hs.1 hg hr, Row.kept hs.2 hg hr⟩) _) (ownFrom_below (Nat.le_refl _) (by omega)))
            (fun _ _ _ _ _ hs _ _ => hs) ⟨⟨hSl, hRw⟩, hB3⟩ _ ?assign ?body ?done ?stop
          case hKb => exact ⟨rfl, rfl, rfl, by simp, fun q hq hnq => World.putObj_heap_other (fun e => hnq (.inr (by omega)))⟩
          case assign =>
            intro l x W K hK
            gi_wp2
            exact hK
          case body =>
            rintro l pre x W ⟨⟨hc, ha⟩, hB⟩ _
            have hxk : x.1 < k := bit_lt HS2.out x.2.1
            have hcx := Arr.cell ha hxk
            have hfx := Row.free ha x.1
            have hxi : ((x.1 : Nat) : Int) < (k : Int) := by omega
            have HA2 := Lib.hid ha
            clear ha
            gi_wp2
            refine ⟨KeepsOthers.setCell _ _ _, (Keep.refl _ _).setCell (.inl rfl) _, ⟨?_, ?_⟩, hB.setCell (p := ⟨wr.heap.size, x.1, none⟩) (Nat.le_refl _) _⟩
            · rw [World.cell?_setCell_other]
              · exact hc
              · intro e; have := congrArg Addr.block e; dsimp only at this; omega
            · exact (HA2.out.set x.1 1).congr fun j _ => (ind_snoc tS pre x j).symm
          case done =>
            rintro D ys W hD hys ⟨⟨hc, ha⟩, hB⟩ hK
            have hBW := HBW.out.trans (hB.mono (by omega))
            have hints := ints_arrI ha
            have hmem : ∀ j, j < k → ((List.range k).map (ind tS ys)).getD j 0 = if t.1.s.testBit j then 1 else 0 := by
              intro j hj
              rw [getD_rangeI _ hj, HTS.out]
              unfold ind
              rw [hys]
              unfold below
              have hj64 : j < 64 := by omega
              by_cases hb : tS.testBit j = true
              · rw [if_pos (by simp [hb, hj64]), if_pos hb]
              · rw [if_neg (by simp [hb]), if_neg hb]
            have hop := knap_opt I k HN.out HK.out (by rw [HCAP.out]; exact HD.out) HTM.out.1 HTM.out.2 (x := (List.range k).map (ind tS ys)) (by simp) hmem
            have hlen : ((List.range k).map (ind tS ys)).length = k := by simp
            generalize (List.range k).map (ind tS ys) = X at hints hop hlen
            have htd := HTD.out (some ⟨wr.heap.size, 0, none⟩) k X W (HV.out.keep hBW) hints hop.1
            rw [hlen] at htd
            have HTT := Lib.hid htd
            have HIN := Lib.hid (And.intro hints (And.intro hop (And.intro hlen hBW)))
            have hbx : W.heap[w.heap.size]? = some (.cells #[.int .i64 1, .int .i64 k, .int .i64 Cap, .slice A1 k c1, .slice A2 k c2, .slice A3 0 c3] 25) := (hB.block _ hbw).trans HBXR.out
            have hcb : ∀ j, W.cell? ⟨w.heap.size, j, none⟩ = #[.int .i64 1, .int .i64 k, .int .i64 Cap, .slice A1 k c1, .slice A2 k c2, .slice A3 0 c3][j]? := fun j => blk_cell hbx j
            clear hbx htd hints hop hlen hBW ha hys hmem y0 y1 y2 y3 yf
            go_wp2_with fail
            refine HTT.out.mono ?_
            rintro e w5 ⟨rfl, hb5⟩
            have hK5 := heap_keep hK hb5
            have hst := HIN.out
            have hfin : Tells I w (.returned (.tuple #[.slice (some ⟨wr.heap.size, 0, none⟩) k k, .int .i64 (costOf I X), .int .i64 0])) (w5.putObj D (.deferred none)) := by
              obtain ⟨i1, i2, i3, i4⟩ := hst
              have hb6 : Below W.heap.size W (w5.putObj D (.deferred none)) ∨ True := .inr trivial
              have hDlt := heap_lt hK5
              have hbig : Below W0.heap.size w5 (w5.putObj D (.deferred none)) := belowK_b (w := W0) (Nat.le_refl _) w5 D _ _ hD hK5 rfl rfl
              have hW0 : w.heap.size ≤ W0.heap.size := by omega
              refine ⟨X, some ⟨wr.heap.size, 0, none⟩, k, by rw [i3], i2, by rw [i3]; exact Nat.le_refl _, ?_, ?_⟩
              · intro h0
                obtain ⟨ad, e, hcs⟩ := (i1.keep hb5) h0
                refine ⟨ad, e, fun j hj => ?_⟩
                cases e
                refine (hbig.cell ?_).trans (hcs j hj)
                show (Addr.add _ _).block < _
                unfold Addr.add
                split <;> (dsimp only; omega)
              · exact (i4.trans (hb5.mono i4.size)).trans (hbig.mono hW0)
            clear hst
            go_wp2
            refine ⟨by simp, .inl ⟨_, _, rfl, run_takeDeferred hK5, ?_⟩⟩
            exact ⟨_, results_tmp3 (t := 2) (u := 3) (v := 4) rfl _ _ _, hfin⟩
          case stop =>
            rintro D c pre W _ _ h _
            exact h.elim
end Go.Proofs.YtmfgffmlnfimcaaDoor
