/- The walks of exact.with and exact.best. -/
import Derived.Test.YtmfgffmlnfimcaaDoorS
import Derived.Deep.RegionWith
namespace Go.Proofs.YtmfgffmlnfimcaaDoor
open Go Go.RowKit Go.Shelf Go.Sort

/-- A load and one item more. -/
def Ld.plus (l : Ld) (wt val : Int) (k : Nat) : Ld := ⟨l.w + wt, l.v + val, l.s ||| 2 ^ k⟩

/-- What 'with' tells. -/
structure WithR (wt val room : Int) (k : Nat) (ls out : List LdB) : Prop where
  all : ∀ l ∈ ls, l.1.w + wt ≤ room → ∃ m ∈ out, m.1 = l.1.plus wt val k
  from_ : ∀ m ∈ out, ∃ l ∈ ls, l.1.w + wt ≤ room ∧ m.1 = l.1.plus wt val k
  len : out.length ≤ ls.length

theorem WithR.nil (wt val room : Int) (k : Nat) : WithR wt val room k [] [] := ⟨by simp, by simp, Nat.le_refl _⟩
theorem WithR.more {wt val room : Int} {k : Nat} {ls out : List LdB} {l m : LdB} (h : WithR wt val room k ls out) (hr : l.1.w + wt ≤ room) (hm : m.1 = l.1.plus wt val k) : WithR wt val room k (ls ++ [l]) (out ++ [m]) := by
  refine ⟨fun a ha hw => ?_, fun a ha => ?_, by simp; exact h.len⟩
  · rcases List.mem_append.1 ha with ha | ha
    · obtain ⟨b, h1, h2⟩ := h.all a ha hw
      exact ⟨b, List.mem_append_left _ h1, h2⟩
    · obtain rfl : a = l := by simpa using ha
      exact ⟨m, by simp, hm⟩
  · rcases List.mem_append.1 ha with ha | ha
    · obtain ⟨b, h1, h2⟩ := h.from_ a ha
      exact ⟨b, List.mem_append_left _ h1, h2⟩
    · obtain rfl : a = m := by simpa using ha
      exact ⟨l, by simp, hr, hm⟩
theorem WithR.less {wt val room : Int} {k : Nat} {ls out : List LdB} {l : LdB} (h : WithR wt val room k ls out) (hr : ¬ l.1.w + wt ≤ room) : WithR wt val room k (ls ++ [l]) out := by
  refine ⟨fun a ha hw => ?_, fun a ha => ?_, by have := h.len; simp; omega⟩
  · rcases List.mem_append.1 ha with ha | ha
    · exact h.all a ha hw
    · obtain rfl : a = l := by simpa using ha
      exact absurd hw hr
  · obtain ⟨b, h1, h2⟩ := h.from_ a ha
    exact ⟨b, List.mem_append_left _ h1, h2⟩

theorem take_snoc (ls : List LdB) {j : Nat} (hj : j < ls.length) : ls.take (j + 1) = ls.take j ++ [ls[j]!] := by
  rw [List.take_add_one, List.getElem?_eq_getElem hj]
  simp [hj]
theorem get_mem (ls : List LdB) {j : Nat} (hj : j < ls.length) : ls[j]! ∈ ls := by
  rw [getElem!_pos ls j hj]; exact List.getElem_mem hj

theorem OwnL.keep {w w' : World} {base : Nat} {v : Value} {ls : List LdB} (h : OwnL w base v ls) (hb : Below w.heap.size w w') : OwnL w' base v ls := by
  refine ⟨h.1, ?_⟩
  rcases h.2 with h2 | ⟨g, cap, cur, e, hb', hg, r⟩
  · exact .inl h2
  · exact .inr ⟨g, cap, cur, e, hb', heap_keep hg hb, r⟩

/-- One load more at the end: the law at a step of a region that draws its order. -/
theorem step_append_ld {ops : Array Oper} {o : Oper} {a : Act} {K : Act → World → Prop} {Q : Exit → Act → World → Prop} {E : Prop} (hgd : o.guard = none) (s x : Operand)
    (ho : o.op = .call { callee := .builtin .append, args := #[s, x], argTypes := #[73, 73] }) (base : Nat) (v : Value) (out : List LdB) (hs : a.eval s = v) (w0 w : World) (hown0 : OwnL w0 base v out) (hB0 : Below w0.heap.size w0 w) (l : LdB) (c0 c1 c2 c3 : Value) (hc : ldC l = [c0, c1, c2, c3])
    (hx : a.eval x = .slice (some ⟨w.heap.size, 0, none⟩) 1 1) (hl : out.length ≤ 300000) (hb : base ≤ w.heap.size)
    (h : ∀ v' w', OwnL w' base v' (out ++ [l]) → Below base w w' → (∀ (p : Addr) (u : Value), w0.heap.size ≤ p.block → (w.alloc (.cells #[c0, c1, c2, c3] 72)).cell? p = some u → w'.cell? p = some u) → K (a.put o.dst v') w') :
    if Region.wanted o (yielded ops a.tmps) = true then Oper.wp Tryd.prog o a (w.alloc (.cells #[c0, c1, c2, c3] 72)) K Q else E := by
  obtain ⟨i, hi, hz0, hz1, hz2⟩ := info_parts (P := Tryd.prog) (e := 72) (z := .agg #[.int .i64 0, .int .i64 0, .int .u64 0, .int .u64 0]) (size := 4) (bytes := 32) (by kernel_rfl)
  have hown : OwnL w base v out := hown0.keep hB0
  refine step_append_lies _ hgd s x 73 ho base 72 i _ 4 32 Tryd.underlying73 hi hz0 hz1 hz2 rfl (by decide) v out.length (out.flatMap ldC) hs (hown.keep ((Below.refl _ _).alloc (Nat.le_refl _) _)) ⟨w.heap.size, 0, none⟩ 1 1 (ldC l) hx rfl ?_ ?_ (by decide) ?_ ?_ ?_ _ rfl ?_
  · intro j u hj
    have hn := heap_new w (.cells #[c0, c1, c2, c3] 72) _ rfl
    have ha : (⟨w.heap.size, 0, none⟩ : Addr).add j = ⟨w.heap.size, j, none⟩ := by unfold Addr.add; split <;> simp_all
    rw [ha, blk_cell hn, ← hj, hc]
    simp
  · intro u hu
    simp [ldC] at hu
    rcases hu with h | h | h | h <;> subst h <;> rfl
  · unfold maxLen; omega
  · omega
  · simp; omega
  · intro g cap w' h1 h2 _ _
    refine h _ w' (OwnL.snoc h1) ?_ fun p u hp hu => ?_
    rotate_left
    · have hu2 : (w.alloc (.cells #[c0, c1, c2, c3] 72)).cell? p = some u := hu
      have hpl := World.block_lt_of_cell? _ p hu2
      refine (World.cell?_of_block (h2.block p.block hpl fun e => ?_)).trans hu2
      rcases hown0.2 with ⟨e2, _⟩ | ⟨g0, cap0, cur0, e2, _, hg0, _⟩
      · rw [e2] at e; cases e
      · rw [e2] at e
        have e3 : p.block = g0 := by cases e; rfl
        have := heap_lt hg0
        omega
    have hb1 : Below base w (w.alloc (.cells #[c0, c1, c2, c3] 72)) := (Below.refl _ _).alloc hb _
    exact hb1.trans (OwnL.below (v := v) (xs := out) (hown.keep ((Below.refl _ _).alloc (Nat.le_refl _) _)) h2 (by simp; omega))

set_option maxRecDepth 100000 in
set_option maxHeartbeats 2000000 in
theorem with_loads (w : World) (g c : Nat) (ls : List LdB) (k : Nat) (wt val room : Int) (_ : g < w.heap.size) (hA : LdsAt w g ls) (hl : ls.length ≤ 300000) (hk : k < 63) (hwt : 0 ≤ wt ∧ wt ≤ 2147483647) (hval : 0 ≤ val ∧ val ≤ 2147483647) (hok : ∀ l ∈ ls, (l.1.plus wt val k).ok) :
    Calls Tryd.prog 43 #[.slice (some ⟨g, 0, none⟩) ls.length c, .int .i64 k, .int .i64 wt, .int .i64 val, .int .i64 room] w fun e w' => (∃ v' out, e = .returned v' ∧ WithR wt val room k ls out ∧ OwnL w' w.heap.size v' out) ∧ Below w.heap.size w w' := by
  obtain ⟨n, hn⟩ : ∃ n, ls.length = n := ⟨_, rfl⟩
  rw [hn] at hl ⊢
  have HN := Lib.hid hn
  have HA := Lib.hid hA
  have HOK := Lib.hid hok
  have HU := Lib.hid hval
  obtain ⟨i, hi, hz0, hz1, hz2⟩ := info_parts (P := Tryd.prog) (e := 72) (z := .agg #[.int .i64 0, .int .i64 0, .int .u64 0, .int .u64 0]) (size := 4) (bytes := 32) (by kernel_rfl)
  have HI := Lib.hid (And.intro hi (And.intro hz0 (And.intro hz1 hz2)))
  clear hn hA hok hi hz0 hz1 hz2
  go_enter Tryd.func43, Tryd.ntmps43
  go_wp2
  go_loopg [11, 16] n (fun gg v11 v16 wr => ∃ (j : Nat) (out : List LdB), v16 = .int .i64 j ∧ j + gg = n ∧ Hid (WithR wt val room k (ls.take j) out) ∧ Hid (OwnL wr w.heap.size v11 out) ∧ Hid (Below w.heap.size w wr))
  case atStart => exact ⟨0, [], rfl, by omega, Lib.hid (WithR.nil _ _ _ _), Lib.hid (OwnL.nil _ _), Lib.hid (Below.refl _ _)⟩
  case round =>
    obtain ⟨j, out, rfl, hj, HR, HO, HB⟩ := hrel
    by_cases cj : j < n
    · have hji : (j : Int) < (n : Int) := by omega
      obtain ⟨x0, x1, x2, x3⟩ := (HA.out.keep HB.out) j (by rw [HN.out]; exact cj)
      have hol : out.length ≤ n := by have := HR.out.len; rw [List.length_take] at this; have := HN.out; omega
      have hokj := HOK.out _ (get_mem ls (by rw [HN.out]; exact cj))
      have HT := Lib.hid (take_snoc ls (j := j) (by rw [HN.out]; exact cj))
      obtain ⟨l, hl0⟩ : ∃ l : LdB, ls[j]! = l := ⟨_, rfl⟩
      rw [hl0] at x0 x1 x2 hokj HT
      obtain ⟨o1, o2, o3, o4, o5⟩ := l.2
      obtain ⟨lw, hlw⟩ : ∃ x, l.1.w = x := ⟨_, rfl⟩
      obtain ⟨lv, hlv⟩ : ∃ x, l.1.v = x := ⟨_, rfl⟩
      obtain ⟨lS, hlS⟩ : ∃ x, l.1.s = x := ⟨_, rfl⟩
      rw [hlw] at x0 o1 o2
      rw [hlv] at x1 o3 o4
      rw [hlS] at x2 o5
      have HL := Lib.hid (And.intro hlw (And.intro hlv hlS))
      have HOKJ := Lib.hid hokj
      have HWA := Lib.hid (fun W => with_any lS k 0 W (by omega) (by omega))
      clear hlw hlv hlS hl0 hokj o5
      by_cases cr : lw + wt ≤ room
      · have hown : ∀ W w4 : World, Below W.heap.size W w4 → W.heap = (wr.alloc (.cells #[.int .i64 lw, .int .i64 lv, .int .u64 lS, .int .u64 0] 72)).heap → W.os = wr.os → W.tape = wr.tape → W.output = wr.output → Below wr.heap.size wr w4 ∧ True :=
          fun W w4 h a b c d => ⟨keep_trans (below_like _ b c d a) h, trivial⟩
        have HOWN := Lib.hid hown
        clear hown
        obtain ⟨m, hm⟩ : ∃ m : LdB, m.1 = l.1.plus wt val k := ⟨⟨_, HOKJ.out⟩, rfl⟩
        have hmc : ldC m = [.int .i64 (IntKind.i64.wrap (lw + wt)), .int .i64 (IntKind.i64.wrap (lv + val)), .int .u64 ((lS ||| 2 ^ k : Nat) : Int), .int .u64 0] := by
          obtain ⟨e1, e2, e3⟩ := HL.out
          rw [show IntKind.i64.wrap (lw + wt) = lw + wt by rw [IntKind.wrap_i64]; omega, show IntKind.i64.wrap (lv + val) = lv + val by rw [IntKind.wrap_i64]; omega]
          unfold ldC
          rw [hm]
          unfold Ld.plus
          rw [e1, e2, e3]
        have HMC := Lib.hid hmc
        have HM := Lib.hid hm
        clear hmc hm
        generalize ((lS ||| 2 ^ k : Nat) : Int) = lT at *
        go_upto_region 6 with (fail)
        go_region_held3 (fun w' => w'.cell? ⟨wr.heap.size, 0, none⟩ = some (.int .i64 lw) ∧ w'.cell? ⟨wr.heap.size, 1, none⟩ = some (.int .i64 lv) ∧ w'.cell? ⟨wr.heap.size, 2, none⟩ = some (.int .u64 lS) ∧ w'.cell? ⟨wr.heap.size, 3, none⟩ = some (.int .u64 0))
          (first | go_keep | (go_split_ands; refine ⟨?_, ?_, ?_, ?_⟩ <;> exact cell_keep hb4 (by assumption)) | (go_split_ands; refine ⟨?_, ?_, ?_, ?_⟩ <;> exact hk5 _ _ (Nat.le_refl _) (by assumption)))
          (first | (go_at_call 46; refine (HWA.out _).mono ?_; rintro e w4 ⟨rfl, hb4⟩) | ((refine step_append_ld (by rfl) _ _ (by rfl) w.heap.size u11 out (by rfl) wr _ HO.out (HOWN.out _ _ hb4 rfl rfl rfl rfl).1 m _ _ _ _ HMC.out (by rfl) (by omega) ((HB.out.trans ((HOWN.out _ _ hb4 rfl rfl rfl rfl).1.mono HB.out.size)).size) ?_; intro v5 w5 hown5 hbel5 hk5)))
        have HX := Lib.hid (And.intro hown5 (HB.out.trans (((HOWN.out _ _ hb4 rfl rfl rfl rfl).1.mono HB.out.size).trans hbel5)))
        clear hown5 hbel5 hk5 hb4
        go_wp2
        go_roundg (gk - 1)
        case measure => omega
        case rel =>
          refine ⟨j + 1, out ++ [m], by go_num, by omega, Lib.hid ?_, Lib.hid HX.out.1, Lib.hid HX.out.2⟩
          rw [HT.out]
          exact HR.out.more (by rw [HL.out.1]; exact cr) HM.out
      · go_wp2
        go_roundg (gk - 1)
        case measure => omega
        case rel =>
          refine ⟨j + 1, out, by go_num, by omega, Lib.hid ?_, Lib.hid (HO.out.keep ((Below.refl _ _).alloc (Nat.le_refl _) _)), Lib.hid (HB.out.alloc HB.out.size _)⟩
          rw [HT.out]
          exact HR.out.less (by rw [HL.out.1]; omega)
    · have ej : j = n := by omega
      go_wp2
      go_ret
      refine ⟨⟨u11, out, rfl, ?_, HO.out⟩, HB.out⟩
      have := HR.out
      rw [ej, ← HN.out, List.take_length] at this
      exact this

/-- What 'best' tells. -/
structure BestR (ls out : List LdB) : Prop where
  sub : ∀ m ∈ out, m ∈ ls
  dom : ∀ l ∈ ls, ∃ m ∈ out, m.1.w ≤ l.1.w ∧ l.1.v ≤ m.1.v
  len : out.length ≤ ls.length

theorem BestR.nil : BestR [] [] := ⟨by simp, by simp, Nat.le_refl _⟩
theorem BestR.more {ls out : List LdB} (h : BestR ls out) (l : LdB) : BestR (ls ++ [l]) (out ++ [l]) := by
  refine ⟨fun a ha => ?_, fun a ha => ?_, by simp; exact h.len⟩
  · rcases List.mem_append.1 ha with ha | ha
    · exact List.mem_append_left _ (h.sub a ha)
    · exact List.mem_append_right _ ha
  · rcases List.mem_append.1 ha with ha | ha
    · obtain ⟨b, h1, h2⟩ := h.dom a ha
      exact ⟨b, List.mem_append_left _ h1, h2⟩
    · exact ⟨a, List.mem_append_right _ ha, Int.le_refl _, Int.le_refl _⟩
theorem BestR.less {ls out : List LdB} (h : BestR ls out) (l m : LdB) (hm : m ∈ out) (h1 : m.1.w ≤ l.1.w) (h2 : l.1.v ≤ m.1.v) : BestR (ls ++ [l]) out := by
  refine ⟨fun a ha => List.mem_append_left _ (h.sub a ha), fun a ha => ?_, by have := h.len; simp; omega⟩
  rcases List.mem_append.1 ha with ha | ha
  · exact h.dom a ha
  · obtain rfl : a = l := by simpa using ha
    exact ⟨m, hm, h1, h2⟩
theorem BestR.perm {ls ls' out : List LdB} (h : BestR ls' out) (hp : ls'.Perm ls) : BestR ls out :=
  ⟨fun m hm => hp.mem_iff.1 (h.sub m hm), fun l hl => h.dom l (hp.mem_iff.2 hl), by have := h.len; rwa [hp.length_eq] at this⟩

theorem OwnL.mono {w : World} {base base' : Nat} {v : Value} {ls : List LdB} (h : OwnL w base v ls) (hb : base' ≤ base) : OwnL w base' v ls := by
  refine ⟨h.1, ?_⟩
  rcases h.2 with h2 | ⟨g, cap, cur, e, hb', r⟩
  · exact .inl h2
  · exact .inr ⟨g, cap, cur, e, by omega, r⟩
theorem OwnL.form {w : World} {base : Nat} {v : Value} {ls : List LdB} (h : OwnL w base v ls) : ∃ A c, v = .slice A ls.length c := by
  rcases h.2 with ⟨e, h2⟩ | ⟨g, cap, cur, e, _⟩
  · exact ⟨none, 0, by rw [e, h2]⟩
  · exact ⟨_, _, e⟩

/-- One load more at the end: the law at a walk's step. -/
theorem append_ld {ops : Array Oper} {rest : List Oper} {o : Oper} {a : Act} {Q : Exit → Act → World → Prop} (hgd : o.guard = none) (s x : Operand)
    (ho : o.op = .call { callee := .builtin .append, args := #[s, x], argTypes := #[73, 73] }) (base : Nat) (v : Value) (out : List LdB) (hs : a.eval s = v) (w : World) (hown : OwnL w base v out) (l : LdB) (c0 c1 c2 c3 : Value) (hc : ldC l = [c0, c1, c2, c3])
    (hx : a.eval x = .slice (some ⟨w.heap.size, 0, none⟩) 1 1) (hl : out.length ≤ 300000) (hb : base ≤ w.heap.size)
    (h : ∀ v' w', OwnL w' base v' (out ++ [l]) → Below base w w' → wpList Tryd.prog ops Q rest (a.put o.dst v') w') :
    wpList Tryd.prog ops Q (o :: rest) a (w.alloc (.cells #[c0, c1, c2, c3] 72)) := by
  obtain ⟨i, hi, hz0, hz1, hz2⟩ := info_parts (P := Tryd.prog) (e := 72) (z := .agg #[.int .i64 0, .int .i64 0, .int .u64 0, .int .u64 0]) (size := 4) (bytes := 32) (by kernel_rfl)
  have hown' : OwnL (w.alloc (.cells #[c0, c1, c2, c3] 72)) base v out := hown.keep ((Below.refl _ _).alloc (Nat.le_refl _) _)
  refine wpList_append_own _ hgd s x 73 ho base 72 i _ 4 32 Tryd.underlying73 hi hz0 hz1 hz2 rfl (by decide) v out.length (out.flatMap ldC) hs hown' ⟨w.heap.size, 0, none⟩ 1 1 (ldC l) hx rfl ?_ ?_ ?_ ?_ ?_ ?_
  · intro j u hj
    have hn := heap_new w (.cells #[c0, c1, c2, c3] 72) _ rfl
    have ha : (⟨w.heap.size, 0, none⟩ : Addr).add j = ⟨w.heap.size, j, none⟩ := by unfold Addr.add; split <;> simp_all
    rw [ha, blk_cell hn, ← hj, hc]
    simp
  · intro u hu
    simp [ldC] at hu
    rcases hu with h | h | h | h <;> subst h <;> rfl
  · unfold maxLen; omega
  · omega
  · simp; omega
  · intro v' w' h1 h2 _
    refine h v' w' (OwnL.snoc h1) ?_
    have hb1 : Below base w (w.alloc (.cells #[c0, c1, c2, c3] 72)) := (Below.refl _ _).alloc hb _
    exact hb1.trans (OwnL.below (v := v) (xs := out) hown' h2 (by simp; omega))

theorem worse_b (a b : LdB) (w : World) : Calls Tryd.prog 50 #[ldV a, ldV b] w fun e w' => e = .returned (.bool (decide (b.1.w ≤ a.1.w) && decide (a.1.v ≤ b.1.v))) ∧ Below w.heap.size w w' := by
  refine (worse_any a b w).mono ?_
  rintro e w' ⟨rfl, os, rfl⟩
  exact ⟨rfl, below_grow (Below.refl _ _) (Nat.le_refl _) os⟩

set_option maxRecDepth 100000 in
set_option maxHeartbeats 2000000 in
theorem best_any (w : World) (base : Nat) (v : Value) (ls : List LdB) (h : OwnL w base v ls) (hx : ls ≠ []) (hl : ls.length ≤ 300000) (hbs : base ≤ w.heap.size) :
    Calls Tryd.prog 42 #[v] w fun e w' => (∃ v' out, e = .returned v' ∧ BestR ls out ∧ OwnL w' base v' out) ∧ Below base w w' := by
  have HS := Lib.hid (fun W hW => sort_any W base v ls (h.keep hW) hx (by omega) (Nat.le_trans hbs hW.size))
  clear h hx
  go_enter Tryd.func42, Tryd.ntmps42
  go_wp2_with fail
  refine (HS.out _ (Below.refl _ _)).mono ?_
  rintro e w1 ⟨rfl, ⟨g, c, ls', rfl, hp, hlc, hg, hA⟩, hb1⟩
  have HP := Lib.hid hp
  have HA := Lib.hid hA
  have HB1 := Lib.hid hb1
  have hbs1 := hb1.size
  obtain ⟨n, hn⟩ : ∃ n, ls.length = n := ⟨_, rfl⟩
  rw [hn] at hl ⊢
  have hn' : ls'.length = n := by rw [← hn]; exact hp.length_eq
  have HN := Lib.hid hn'
  clear hp hA hb1 hlc hn hn'
  go_wp2
  go_loopg [3, 10] n (fun gg v3 v10 wr => ∃ (j : Nat) (out : List LdB), v10 = .int .i64 j ∧ j + gg = n ∧ Hid (BestR (ls'.take j) out) ∧ Hid (OwnL wr w1.heap.size v3 out) ∧ Hid (Below w1.heap.size w1 wr))
  case atStart => exact ⟨0, [], rfl, by omega, Lib.hid BestR.nil, Lib.hid (OwnL.nil _ _), Lib.hid (Below.refl _ _)⟩
  case round =>
    obtain ⟨j, out, rfl, hj, HR, HO, HB⟩ := hrel
    by_cases cj : j < n
    · have hji : (j : Int) < (n : Int) := by omega
      have hol : out.length ≤ n := by have := HR.out.len; rw [List.length_take] at this; have := HN.out; omega
      have HT := Lib.hid (take_snoc ls' (j := j) (by rw [HN.out]; exact cj))
      obtain ⟨x0, x1, x2, x3⟩ := (HA.out.keep HB.out) j (by rw [HN.out]; exact cj)
      obtain ⟨l, hl0⟩ : ∃ l : LdB, ls'[j]! = l := ⟨_, rfl⟩
      have HT2 := HT.out
      rw [hl0] at x0 x1 x2 HT2
      have HTT := Lib.hid HT2
      have hWO : ∀ (m : LdB) (W : World), Calls Tryd.prog 50 #[.agg #[.int .i64 l.1.w, .int .i64 l.1.v, .int .u64 (l.1.s : Nat), .int .u64 0], .agg #[.int .i64 m.1.w, .int .i64 m.1.v, .int .u64 (m.1.s : Nat), .int .u64 0]] W
          fun e w' => e = .returned (.bool (decide (m.1.w ≤ l.1.w) && decide (l.1.v ≤ m.1.v))) ∧ Below W.heap.size W w' := fun m W => worse_b l m W
      have hLC : ldC l = [.int .i64 l.1.w, .int .i64 l.1.v, .int .u64 (l.1.s : Nat), .int .u64 0] := rfl
      obtain ⟨lw, hlw⟩ : ∃ x, l.1.w = x := ⟨_, rfl⟩
      obtain ⟨lv, hlv⟩ : ∃ x, l.1.v = x := ⟨_, rfl⟩
      obtain ⟨lS, hlS⟩ : ∃ x, l.1.s = x := ⟨_, rfl⟩
      rw [hlw] at x0 hWO hLC
      rw [hlv] at x1 hWO hLC
      rw [hlS] at x2 hWO hLC
      have HL := Lib.hid (And.intro hlw (And.intro hlv hlS))
      have HWO := Lib.hid hWO
      have HLC := Lib.hid hLC
      clear HT2 hl0 hWO hLC hlw hlv hlS
      have hcut0 : ∀ W w4 : World, Below W.heap.size W w4 → W.heap = (wr.alloc (.cells #[.int .i64 lw, .int .i64 lv, .int .u64 lS, .int .u64 0] 72)).heap → W.os = wr.os → W.tape = wr.tape → W.output = wr.output → Below wr.heap.size wr w4 ∧ w4.heap[wr.heap.size]? = some (.cells #[.int .i64 lw, .int .i64 lv, .int .u64 lS, .int .u64 0] 72 (0, 0)) :=
        fun W w4 h a b c d => ⟨keep_trans (below_like _ b c d a) h, heap_keep (by rw [a]; exact heap_new _ _ _ rfl) h⟩
      have HCUT := Lib.hid hcut0
      clear hcut0
      by_cases ho : out = []
      · subst ho
        obtain ⟨A, c2, rfl⟩ := HO.out.form
        rw [List.length_nil] at HO ⊢
        go_upto_region 6 with (fail)
        go_cut [27] (fun v27 wc => v27 = .bool true ∧ Hid (Below wr.heap.size wr wc ∧ wc.heap[wr.heap.size]? = some (.cells #[.int .i64 lw, .int .i64 lv, .int .u64 lS, .int .u64 0] 72 (0, 0))))
        case first =>
          go_quiet (fail)
          all_goals go_wp2
          all_goals go_meet
          all_goals exact ⟨rfl, Lib.hid (HCUT.out _ _ (Below.refl _ _) rfl rfl rfl rfl)⟩
        case rest =>
          obtain ⟨rfl, HC⟩ := hcut
          clear x0 x1 x2 x3
          have x0 := blk_cell HC.out.2 0
          have x1 := blk_cell HC.out.2 1
          have x2 := blk_cell HC.out.2 2
          have x3 := blk_cell HC.out.2 3
          have hwc := heap_lt HC.out.2
          have hbw : w1.heap.size ≤ wc.heap.size := by have := HB.out.size; omega
          go_wp2_with (at_builtin; refine append_ld rfl _ _ rfl w1.heap.size (.slice A 0 c2) [] rfl _ (HO.out.keep HC.out.1) l _ _ _ _ HLC.out rfl (by decide) hbw ?_)
          intro v5 w5 hown5 hbel5
          have HX := Lib.hid (And.intro hown5 (HB.out.trans ((HC.out.1.mono HB.out.size).trans hbel5)))
          clear hown5 hbel5 x0 x1 x2 x3
          go_wp2
          go_roundg (gk - 1)
          case measure => omega
          case rel =>
            refine ⟨j + 1, [l], by go_num, by omega, Lib.hid ?_, Lib.hid HX.out.1, Lib.hid HX.out.2⟩
            rw [HTT.out]
            exact HR.out.more l
      · have hpos : 0 < out.length := List.length_pos_iff.2 ho
        obtain ⟨g2, c2, rfl, hg2, hg2l, hc2, -, hA2, -⟩ := HO.out.lies ho
        obtain ⟨y0, y1, y2, y3⟩ := hA2 (out.length - 1) (by omega)
        have HM := Lib.hid (get_mem out (j := out.length - 1) (by omega))
        obtain ⟨m, hm⟩ : ∃ m : LdB, out[out.length - 1]! = m := ⟨_, rfl⟩
        rw [hm] at y0 y1 y2 HM
        have hW := HWO.out m
        obtain ⟨mw, hmw⟩ : ∃ x, m.1.w = x := ⟨_, rfl⟩
        obtain ⟨mv, hmv⟩ : ∃ x, m.1.v = x := ⟨_, rfl⟩
        obtain ⟨mS, hmS⟩ : ∃ x, m.1.s = x := ⟨_, rfl⟩
        rw [hmw] at y0 hW
        rw [hmv] at y1 hW
        rw [hmS] at y2 hW
        have HMM := Lib.hid (And.intro hmw (And.intro hmv hmS))
        have hlen0 : ((out.length : Int) == 0) = false := by simp; exact ho
        have e1 : ((out.length : Int) - 1).toNat = out.length - 1 := by omega
        have i1 : 0 ≤ (out.length : Int) - 1 := by omega
        have i2 : (out.length : Int) - 1 < (out.length : Int) := by omega
        have HW2 := Lib.hid hW
        clear hA2 hm hW hmw hmv hmS
        obtain ⟨N, hN⟩ : ∃ N, out.length = N := ⟨_, rfl⟩
        rw [hN] at hol hpos hc2 y0 y1 y2 y3 hlen0 e1 i1 i2 ⊢
        have hO := HO.out
        rw [hN] at hO
        have HO2 := Lib.hid hO
        have HNN := Lib.hid hN
        have hw1 : IntKind.i64.wrap ((N : Int) - 1) = (N : Int) - 1 := by rw [IntKind.wrap_i64]; omega
        have hON : out.length ≤ 300000 := by omega
        have i3 : (1 : Int) ≤ (N : Int) := by omega
        have i4 : 1 ≤ N := by omega
        clear hN hO
        go_upto_region 6 with (fail)
        go_cut [27] (fun v27 wc => v27 = .bool !(decide (mw ≤ lw) && decide (lv ≤ mv)) ∧ Hid (Below wr.heap.size wr wc ∧ wc.heap[wr.heap.size]? = some (.cells #[.int .i64 lw, .int .i64 lv, .int .u64 lS, .int .u64 0] 72 (0, 0))))
        case first =>
          go_region_held3 (fun w' => w'.cell? ⟨wr.heap.size, 0, none⟩ = some (.int .i64 lw) ∧ w'.cell? ⟨wr.heap.size, 1, none⟩ = some (.int .i64 lv) ∧ w'.cell? ⟨wr.heap.size, 2, none⟩ = some (.int .u64 lS) ∧ w'.cell? ⟨wr.heap.size, 3, none⟩ = some (.int .u64 0) ∧
              w'.cell? ⟨g2, (N - 1) * 4, none⟩ = some (.int .i64 mw) ∧ w'.cell? ⟨g2, (N - 1) * 4 + 1, none⟩ = some (.int .i64 mv) ∧ w'.cell? ⟨g2, (N - 1) * 4 + 2, none⟩ = some (.int .u64 mS) ∧ w'.cell? ⟨g2, (N - 1) * 4 + 3, none⟩ = some (.int .u64 0))
            (first | go_keep | (go_split_ands; refine ⟨?_, ?_, ?_, ?_, ?_, ?_, ?_, ?_⟩ <;> exact cell_keep hb4 (by assumption)))
            (first | (go_at_call 50; refine (HW2.out _).mono ?_; rintro e w4 ⟨rfl, hb4⟩))
          all_goals go_wp2
          all_goals go_meet
          exact ⟨by rw [Bool.not_and], Lib.hid (HCUT.out _ _ hb4 rfl rfl rfl rfl)⟩
        case rest =>
          obtain ⟨rfl, HC⟩ := hcut
          clear x0 x1 x2 x3 y0 y1 y2 y3
          have x0 := blk_cell HC.out.2 0
          have x1 := blk_cell HC.out.2 1
          have x2 := blk_cell HC.out.2 2
          have x3 := blk_cell HC.out.2 3
          have hwc := heap_lt HC.out.2
          have hbw : w1.heap.size ≤ wc.heap.size := by have := HB.out.size; omega
          rcases hwb : (decide (mw ≤ lw) && decide (lv ≤ mv)) with _ | _
          · clear hwb
            go_wp2_with (at_builtin; refine append_ld rfl _ _ rfl w1.heap.size (.slice (some ⟨g2, 0, none⟩) N c2) out rfl _ (HO2.out.keep HC.out.1) l _ _ _ _ HLC.out rfl hON hbw ?_)
            intro v5 w5 hown5 hbel5
            have HX := Lib.hid (And.intro hown5 (HB.out.trans ((HC.out.1.mono HB.out.size).trans hbel5)))
            clear hown5 hbel5 x0 x1 x2 x3
            go_wp2
            go_roundg (gk - 1)
            case measure => omega
            case rel =>
              refine ⟨j + 1, out ++ [l], by go_num, by omega, Lib.hid ?_, Lib.hid HX.out.1, Lib.hid HX.out.2⟩
              rw [HTT.out]
              exact HR.out.more l
          · have HWB := Lib.hid hwb
            clear hwb
            go_wp2
            go_roundg (gk - 1)
            case measure => omega
            case rel =>
              refine ⟨j + 1, out, by go_num, by omega, Lib.hid ?_, Lib.hid (HO2.out.keep HC.out.1), Lib.hid (HB.out.trans (HC.out.1.mono HB.out.size))⟩
              rw [HTT.out]
              have h := HWB.out
              simp only [Bool.and_eq_true, decide_eq_true_eq] at h
              exact HR.out.less l m HM.out (by rw [HMM.out.1, HL.out.1]; exact h.1) (by rw [HMM.out.2.1, HL.out.2.1]; exact h.2)
    · have ej : j = n := by omega
      go_wp2
      go_ret
      refine ⟨⟨u3, out, rfl, ?_, HO.out.mono (by omega)⟩, HB1.out.trans (HB.out.mono (by omega))⟩
      have := HR.out
      rw [ej, ← HN.out, List.take_length] at this
      exact this.perm HP.out
end Go.Proofs.YtmfgffmlnfimcaaDoor
