/- The walk of exact's fill: the table of ways. -/
import Derived.Test.YtmfgffmlnfimcaaDoorF
import Derived.Test.YtmfgffmlnfimcaaDoorG
import Derived.Test.YtmfgffmlnfimcaaDoorM2
import Derived.Test.YtmfgffmlnfimcaaDoorM4
namespace Go.Proofs.YtmfgffmlnfimcaaDoor
open Go Go.RowKit Go.Deep

theorem mk_ints1 (n : Nat) (hn : n ≤ 1000000) : ∀ W : World, (Instr.makeSlice 22 (.int .i64 (n : Int)) (.int .i64 (n : Int))).run Tryd.prog W = .ok (.slice (some ⟨W.heap.size, 0, none⟩) n n) (W.alloc (.cells (madeCells #[.int .i64 0] n) 3)) := by
  intro W
  exact run_make_row' (P := Tryd.prog) 22 3 (.int .i64 0) 8 Tryd.underlying22 (by kernel_rfl) rfl .i64 .i64 n (by omega) (by omega) W

/-- The table's block. -/
def WB (w : World) (p c0 b0 K : Nat) : Prop := w.heap[p]? = some (.cells #[.slice (some ⟨c0, 0, none⟩) K K, .slice (some ⟨b0, 0, none⟩) K K] 68 (0, 0))

/-- What memory holds of the table below group G. -/
structure TM (c0 b0 n K G bnd : Nat) (fc fb : Nat → Value) (cost : Nat → Nat → Int) (back : Nat → Nat → Nat) (wr : World) : Prop where
  rc : Row wr c0 22 K fc
  rb : Row wr b0 22 K fb
  bd : bnd ≤ wr.heap.size
  rows : ∀ g, 1 ≤ g → g < G → ∃ r s, fc g = .slice (some ⟨r, 0, none⟩) n n ∧ fb g = .slice (some ⟨s, 0, none⟩) n n ∧ Arr wr r n (cost g) ∧ ArrN wr s n (back g) ∧ r ≠ c0 ∧ r ≠ b0 ∧ s ≠ c0 ∧ s ≠ b0 ∧ r < bnd ∧ s < bnd

/-- Between two groups. -/
def GR (I : Inst) (c0 b0 n K : Nat) (wb : World) (G : Nat) (wr : World) : Prop :=
  ∃ bnd fc fb cost back, Tab (elt I) n cost back G ∧ TM c0 b0 n K G bnd fc fb cost back wr ∧ Keep (fun k => k = c0 ∨ k = b0) wb wr

theorem wrap_pow {n : Nat} (hn : n ≤ 30) : wrap64 (2 ^ n) = ((2 ^ n : Nat) : Int) := by
  have h2 : 2 ^ n ≤ 2 ^ 30 := Nat.pow_le_pow_right (by decide) hn
  have e : ((2 : Int) ^ n) = ((2 ^ n : Nat) : Int) := by simp
  rw [e]
  generalize 2 ^ n = q at h2
  unfold wrap64
  omega

theorem i64_id {x : Nat} (h : x < 4611686018427387904) : IntKind.i64.wrap (x : Int) = x := by rw [IntKind.wrap_i64]; omega

theorem ofInt64 (a : Nat) (ha : a < 4611686018427387904) : (BitVec.ofInt 64 (a : Int)).toNat = a := by
  rw [BitVec.ofInt_natCast, BitVec.toNat_ofNat]; exact Nat.mod_eq_of_lt (by omega)

/-- Is a bit set? as the machine asks. -/
theorem bit_form {G L : Nat} (hG : G < 4611686018427387904) : (bits .and .i64 ((G : Int) / 2 ^ L) 1 == 0) = !G.testBit L := by
  have e : ((G : Int) / 2 ^ L) = ((G / 2 ^ L : Nat) : Int) := by simp
  have hlt : G / 2 ^ L < 4611686018427387904 := Nat.lt_of_le_of_lt (Nat.div_le_self _ _) hG
  rw [e]
  have h1 : bits .and .i64 ((G / 2 ^ L : Nat) : Int) ((1 : Nat) : Int) = ((G / 2 ^ L &&& 1 : Nat) : Int) := by
    show IntKind.i64.wrap ((BitVec.ofInt 64 ((G / 2 ^ L : Nat) : Int) &&& BitVec.ofInt 64 ((1 : Nat) : Int)).toNat : Int) = _
    rw [BitVec.toNat_and, ofInt64 _ hlt, ofInt64 1 (by decide), Nat.and_one_is_mod]
    exact i64_id (by omega)
  rw [show ((1 : Nat) : Int) = 1 from rfl] at h1
  rw [h1, Nat.and_one_is_mod]
  rw [show G.testBit L = decide (G / 2 ^ L % 2 = 1) by rw [Nat.testBit_eq_decide_div_mod_eq]]
  rcases Nat.mod_two_eq_zero_or_one (G / 2 ^ L) with h | h <;> rw [h] <;> rfl

/-- A group without one, as the machine reckons. -/
theorem clr_form {G L : Nat} (hG : G < 4611686018427387904) (hL : L ≤ 30) (hb : G.testBit L = true) : bits .andNot .i64 (G : Int) (wrap64 (2 ^ L)) = ((clr G L : Nat) : Int) := by
  rw [wrap_pow hL]
  have h2 : 2 ^ L ≤ 2 ^ 30 := Nat.pow_le_pow_right (by decide) hL
  have hc := clr_lt hb
  show IntKind.i64.wrap ((BitVec.ofInt 64 (G : Int) &&& ~~~BitVec.ofInt 64 ((2 ^ L : Nat) : Int)).toNat : Int) = _
  rw [BitVec.toNat_and, BitVec.toNat_not, ofInt64 _ hG, ofInt64 _ (by omega)]
  have e : G &&& (2 ^ 64 - 1 - 2 ^ L) = clr G L := by
    apply Nat.eq_of_testBit_eq
    intro i
    rw [Nat.testBit_and, clr_bit G L i hb, show 2 ^ 64 - 1 - 2 ^ L = 2 ^ 64 - (2 ^ L + 1) by omega, Nat.testBit_two_pow_sub_succ (by omega), Nat.testBit_two_pow]
    by_cases hi : i < 64
    · by_cases e2 : i = L
      · subst e2; simp
      · have : ¬ L = i := fun h => e2 h.symm
        simp [hi, e2, this]
    · have : G.testBit i = false := Nat.testBit_lt_two_pow (Nat.lt_of_lt_of_le hG (Nat.le_trans (by decide : 4611686018427387904 ≤ 2 ^ 64) (Nat.pow_le_pow_right (by decide) (by omega))))
      simp [this]
  rw [e]
  exact i64_id (by omega)

/-- Two new rows stand at a group's place. -/
structure GB (c0 b0 n K G : Nat) (fc fb : Nat → Value) (wg : World) (r s : Nat) (wc : World) : Prop where
  ne : r ≠ s
  ge : wg.heap.size ≤ r ∧ wg.heap.size ≤ s
  lt : r < wc.heap.size ∧ s < wc.heap.size
  rc : Row wc c0 22 K (upd fc G (.slice (some ⟨r, 0, none⟩) n n))
  rb : Row wc b0 22 K (upd fb G (.slice (some ⟨s, 0, none⟩) n n))
  ar : Arr wc r n fun _ => 0
  as_ : ArrN wc s n fun _ => 0
  k : Keep (fun k => k = c0 ∨ k = b0) wg wc

theorem gb_ok {c0 b0 n K G : Nat} {fc fb : Nat → Value} {wg : World} (hc : Row wg c0 22 K fc) (hb : Row wg b0 22 K fb) (hne : c0 ≠ b0) (r s : Nat) (hr : wg.heap.size ≤ r ∧ r < wg.heap.size + 2) (hs : wg.heap.size ≤ s ∧ s < wg.heap.size + 2) (hrs : r ≠ s) :
    GB c0 b0 n K G fc fb wg r s ((((wg.setCell ⟨c0, G, none⟩ (.slice (some ⟨r, 0, none⟩) n n)).setCell ⟨b0, G, none⟩ (.slice (some ⟨s, 0, none⟩) n n)).alloc (.cells (madeCells #[.int .i64 0] n) 3)).alloc (.cells (madeCells #[.int .i64 0] n) 3)).drew := by
  generalize hS1 : Value.slice (some ⟨r, 0, none⟩) n n = S1
  generalize hS2 : Value.slice (some ⟨s, 0, none⟩) n n = S2
  obtain ⟨W, hW⟩ : ∃ W, (wg.setCell ⟨c0, G, none⟩ S1).setCell ⟨b0, G, none⟩ S2 = W := ⟨_, rfl⟩
  have hz : W.heap.size = wg.heap.size := by rw [← hW]; simp [World.setCell]
  have row : ∀ g, W.heap.size ≤ g ∧ g < W.heap.size + 2 → Row ((W.alloc (.cells (madeCells #[.int .i64 0] n) 3)).alloc (.cells (madeCells #[.int .i64 0] n) 3)) g 3 n (fun _ => .int .i64 0) := by
    intro g hg
    rcases (show g = W.heap.size ∨ g = W.heap.size + 1 by omega) with e | e <;> subst e
    · exact (Row.made W 3 _ _).alloc _
    · have h := Row.made (W.alloc (.cells (madeCells #[.int .i64 0] n) 3)) 3 (.int .i64 0) n
      simpa using h
  rw [hW]
  refine ⟨hrs, ⟨hr.1, hs.1⟩, ⟨by simp; omega, by simp; omega⟩, ?_, ?_, row r (by omega), row s (by omega), ?_⟩
  · rw [hS1, ← hW]
    exact (((hc.set G S1).far (by show c0 ≠ b0; exact hne) _).alloc _).alloc _
  · rw [hS2, ← hW]
    exact (((hb.far (by show b0 ≠ c0; exact hne.symm) _).set G S2).alloc _).alloc _
  · rw [← hW]
    exact (((((Keep.refl _ _).setCell (p := ⟨c0, G, none⟩) (.inl rfl) _).setCell (p := ⟨b0, G, none⟩) (.inr rfl) _).alloc _).alloc _).drew

/-- What the least over some of the cities ahead is. -/
def Part (I : Inst) (n : Nat) (cost : Nat → Nat → Int) (R L a : Nat) (v : Int) (bk : Nat) : Prop :=
  ((v = 1152921504606846976 ∧ ∀ a', a' < a → R.testBit a' = false) ∨ (∃ a', a' < a ∧ a' < n ∧ R.testBit a' = true ∧ v = cost R a' + elt I (a' + 1) (L + 1) ∧ bk = a')) ∧ ∀ a', a' < a → R.testBit a' = true → v ≤ cost R a' + elt I (a' + 1) (L + 1)

theorem Part.skip {I : Inst} {n : Nat} {cost : Nat → Nat → Int} {R L a : Nat} {v : Int} {bk : Nat} (h : Part I n cost R L a v bk) (hb : R.testBit a = false) : Part I n cost R L (a + 1) v bk := by
  refine ⟨?_, fun a' h1 h2 => ?_⟩
  · rcases h.1 with h1 | ⟨a', h1, h2⟩
    · refine .inl ⟨h1.1, fun a' h2 => ?_⟩
      by_cases e : a' = a
      · subst e; exact hb
      · exact h1.2 a' (by omega)
    · exact .inr ⟨a', by omega, h2⟩
  · by_cases e : a' = a
    · subst e; rw [hb] at h2; cases h2
    · exact h.2 a' (by omega) h2

theorem Part.less {I : Inst} {n : Nat} {cost : Nat → Nat → Int} {R L a : Nat} {v : Int} {bk : Nat} (h : Part I n cost R L a v bk) (ha : a < n) (hb : R.testBit a = true) (hl : cost R a + elt I (a + 1) (L + 1) < v) : Part I n cost R L (a + 1) (cost R a + elt I (a + 1) (L + 1)) a := by
  refine ⟨.inr ⟨a, by omega, ha, hb, rfl, rfl⟩, fun a' h1 h2 => ?_⟩
  by_cases e : a' = a
  · subst e; exact Int.le_refl _
  · have := h.2 a' (by omega) h2; omega

theorem Part.more {I : Inst} {n : Nat} {cost : Nat → Nat → Int} {R L a : Nat} {v : Int} {bk : Nat} (h : Part I n cost R L a v bk) (hl : ¬ cost R a + elt I (a + 1) (L + 1) < v) (hf : cost R a + elt I (a + 1) (L + 1) < 1152921504606846976) : Part I n cost R L (a + 1) v bk := by
  refine ⟨?_, fun a' h1 h2 => ?_⟩
  · rcases h.1 with h1 | ⟨a', h1, h2⟩
    · omega
    · exact .inr ⟨a', by omega, h2⟩
  · by_cases e : a' = a
    · subst e; omega
    · exact h.2 a' (by omega) h2

theorem Part.done {I : Inst} {n : Nat} {cost : Nat → Nat → Int} {G R L : Nat} {v : Int} {bk : Nat} (h : Part I n cost R L n v bk) (hR : clr G L = R) (hG : G.testBit L = true) (h0 : R ≠ 0) (hlt : R < 2 ^ n) : BE (elt I) n cost G L v bk := by
  refine ⟨(fun e => absurd e (by rw [hG]; simp)), (fun _ e => absurd (hR.symm.trans e) h0), fun _ _ => ?_⟩
  rw [hR]
  refine ⟨?_, fun a h1 h2 => h.2 a h1 h2⟩
  rcases h.1 with h1 | ⟨a', h1, h2, h3, h4, h5⟩
  · obtain ⟨a, h2, h3⟩ := some_bit hlt h0
    rw [h1.2 a h2] at h3; cases h3
  · exact ⟨a', h2, h3, h4, h5⟩

/-- What stands while a group's rows are filled. -/
structure EV (I : Inst) (A3 : Option Addr) (c3 p c0 b0 n K G bx r s : Nat) (fc fb : Nat → Value) (cost : Nat → Nat → Int) (back : Nat → Nat → Nat) (wi : World) : Prop where
  q0 : wi.cell? ⟨p, 0, none⟩ = some (.slice (some ⟨c0, 0, none⟩) K K)
  q1 : wi.cell? ⟨p, 1, none⟩ = some (.slice (some ⟨b0, 0, none⟩) K K)
  q5 : wi.cell? ⟨bx, 5, none⟩ = some (.slice A3 (n + 1) c3)
  rc : Row wi c0 22 K (upd fc G (.slice (some ⟨r, 0, none⟩) n n))
  rb : Row wi b0 22 K (upd fb G (.slice (some ⟨s, 0, none⟩) n n))
  rows : ∀ g, 1 ≤ g → g < G → ∃ r' s', fc g = .slice (some ⟨r', 0, none⟩) n n ∧ fb g = .slice (some ⟨s', 0, none⟩) n n ∧ Arr wi r' n (cost g) ∧ ArrN wi s' n (back g) ∧ r' ≠ c0 ∧ r' ≠ b0 ∧ s' ≠ c0 ∧ s' ≠ b0 ∧ r' < wi.heap.size ∧ s' < wi.heap.size
  inp : RowsAt wi A3 I.cost

set_option maxRecDepth 100000 in
set_option maxHeartbeats 4000000 in
theorem fill_any (I : Inst) (hI : WF I) (hk : I.kind = 3) (v : Value) (n p c0 b0 : Nat) (w0 w : World) (hn : I.n = ((n + 1 : Nat) : Int)) (hn1 : 1 ≤ n) (hn2 : n ≤ 11) (hv : InstAt w0 v I) (hB : Below w0.heap.size w0 w)
    (hp : WB w p c0 b0 (2 ^ n)) (hc : Row w c0 22 (2 ^ n) fun _ => .slice none 0 0) (hb : Row w b0 22 (2 ^ n) fun _ => .slice none 0 0) (hd : p ≠ c0 ∧ p ≠ b0 ∧ c0 ≠ b0) (hge : w0.heap.size ≤ c0 ∧ w0.heap.size ≤ b0) :
    Calls Tryd.prog 40 #[.pointer (some ⟨p, 0, none⟩), v] w fun e w' => e = .returned (.tuple #[]) ∧ ∃ bnd fc fb cost back, Tab (elt I) n cost back (2 ^ n) ∧ TM c0 b0 n (2 ^ n) (2 ^ n) bnd fc fb cost back w' ∧ Keep (fun k => k = c0 ∨ k = b0) w w' := by
  obtain ⟨N, hN, -, -, -, hcl, -, -, -, hrl, hok, -⟩ := hI.rows (by omega)
  obtain rfl : N = n + 1 := by omega
  have hpw : 2 ^ n ≤ 2048 := by
    have : 2 ^ n ≤ 2 ^ 11 := Nat.pow_le_pow_right (by decide) hn2
    omega
  obtain ⟨K, hK⟩ : ∃ K, 2 ^ n = K := ⟨_, rfl⟩
  obtain ⟨A1, c1, A2, c2, A3, c3, rfl, -, -, -, -, -, -, -, -, -, h10⟩ := hv
  have hcg := hc.free 0
  have hsh : ∀ W : World, (Instr.makeSlice 22 (.int .i64 (n : Int)) (.int .i64 (n : Int))).run Tryd.prog W = .ok (.slice (some ⟨W.heap.size, 0, none⟩) n n) (W.alloc (.cells (madeCells #[.int .i64 0] n) 3)) := mk_ints1 n (by omega)
  have HK := Lib.hid hK
  have HP := Lib.hid hp
  have HC := Lib.hid hc
  have HBB := Lib.hid hb
  have HD := Lib.hid hd
  have HGE := Lib.hid hge
  have HB := Lib.hid hB
  have H10 := Lib.hid h10
  have HCL := Lib.hid hcl
  have HRL := Lib.hid hrl
  have HOK := Lib.hid hok
  have HN := Lib.hid hn
  rw [hcl, hn, hk]
  clear hp hc hb hd hge hB h10 hcl hrl hok hn hk hI hN hcg hK
  generalize I.ws.length = l1 at *
  generalize I.vs.length = l2 at *
  go_enter Tryd.func40, Tryd.ntmps40
  go_wp2
  go_loopg [5] (K - 1) (fun g v5 wr => ∃ G : Nat, v5 = .int .i64 G ∧ 1 ≤ G ∧ G + g = K ∧ Hid (GR I c0 b0 n K (w.alloc (.cells #[.int .i64 3, .int .i64 ((n : Int) + 1), .int .i64 I.cap, .slice A1 l1 c1, .slice A2 l2 c2, .slice A3 (n + 1) c3] 25)) G wr))
  case atStart =>
    have hK1 : 1 ≤ K := by rw [← HK.out]; exact Nat.pow_pos (by decide)
    have hcc := HC.out
    have hbb := HBB.out
    rw [HK.out] at hcc hbb
    exact ⟨1, rfl, by omega, by omega, Lib.hid ⟨0, _, _, fun _ _ => 0, fun _ _ => 0, fun g h1 h2 => by omega, ⟨hcc.alloc _, hbb.alloc _, Nat.zero_le _, fun g h1 h2 => by omega⟩, Keep.refl _ _⟩⟩
  case round =>
    obtain ⟨G, rfl, hG1, hGg, HGR⟩ := hrel
    obtain ⟨wg, rfl⟩ : ∃ wg : World, wg = wr := ⟨_, rfl⟩
    by_cases cG : G < K
    · have cG' : (G : Int) < wrap64 (2 ^ n) := by rw [wrap_pow (by omega), HK.out]; omega
      have hpr : WB wg p c0 b0 K := by
        obtain ⟨bnd, fc, fb, cost, back, -, -, hk⟩ := HGR.out
        have := heap_old' HP.out (.cells #[.int .i64 3, .int .i64 ((n : Int) + 1), .int .i64 I.cap, .slice A1 l1 c1, .slice A2 l2 c2, .slice A3 (n + 1) c3] 25)
        rw [HK.out] at this
        exact hk.heap this (fun h => by have := HD.out; omega)
      have q0 : wg.cell? ⟨p, 0, none⟩ = some (.slice (some ⟨c0, 0, none⟩) K K) := blk_cell hpr 0
      have q1 : wg.cell? ⟨p, 1, none⟩ = some (.slice (some ⟨b0, 0, none⟩) K K) := blk_cell hpr 1
      have hps := heap_lt hpr
      have HPR := Lib.hid hpr
      obtain ⟨bnd, fc, fb, cost, back, hTab, hTM, hKp⟩ := HGR.out
      have hcc := hTM.rc.cell cG
      have hcb := hTM.rb.cell cG
      have hfc := hTM.rc.free G
      have hfb := hTM.rb.free G
      have hlc := hTM.rc.lt
      have hlb := hTM.rb.lt
      have HTAB := Lib.hid hTab
      have HTM := Lib.hid hTM
      have HKP := Lib.hid hKp
      have al : ∀ (W : World) (o : Obj) (p : Addr) (v : Value), W.cell? p = some v → (W.alloc o).cell? p = some v := fun W o p v h => cell_keep ((Below.refl _ _).alloc (Nat.le_refl _) o) h
      have q01 := fun o1 => al _ o1 _ _ q0
      have q02 := fun o1 o2 => al _ o2 _ _ (q01 o1)
      have q11 := fun o1 => al _ o1 _ _ q1
      have q12 := fun o1 o2 => al _ o2 _ _ (q11 o1)
      have cG2 : (G : Int) < (K : Int) := by omega
      have hne1 : c0 ≠ b0 := HD.out.2.2
      have hne2 : b0 ≠ c0 := HD.out.2.2.symm
      clear hpr hTab hTM hKp al
      generalize fc G = vc at hcc
      generalize fb G = vb at hcb
      go_upto_region 5 with (fail)
      go_cut [] (fun wc => ∃ r s, Hid (GB c0 b0 n K G fc fb wg r s wc))
      case first =>
        go_region
        all_goals go_wp2
        all_goals go_meet
        all_goals exact ⟨_, _, Lib.hid (gb_ok HTM.out.rc HTM.out.rb hne1 _ _ (by omega) (by omega) (by omega))⟩
      case rest =>
        clear q0 q1 q01 q02 q11 q12 hcc hcb hfc hfb cG'
        obtain ⟨r, s, HGB⟩ := hcut
        have hev : ∀ wi, Keep (fun k => k = r ∨ k = s) wc wi → EV I A3 c3 p c0 b0 n K G w.heap.size r s fc fb cost back wi := by
          intro wi hk
          have gb := HGB.out
          have tm := HTM.out
          have hd := HD.out
          have hge := HGE.out
          have hr1 := gb.ge.1
          have hs1 := gb.ge.2
          have hBs := HB.out.size
          have hws : w.heap.size < wg.heap.size := by have := HKP.out.size; simp at this; omega
          have hpz := heap_lt HPR.out
          have hbd2 := tm.bd
          have hin : Keep (fun k => k = c0 ∨ k = b0 ∨ k = r ∨ k = s) wg wi := (gb.k.weaken fun k _ h => by rcases h with h | h <;> simp [h]).trans (hk.weaken fun k _ h => by rcases h with h | h <;> simp [h])
          have hbx : wg.heap[w.heap.size]? = some (.cells #[.int .i64 3, .int .i64 ((n : Int) + 1), .int .i64 I.cap, .slice A1 l1 c1, .slice A2 l2 c2, .slice A3 (n + 1) c3] 25) :=
            HKP.out.heap (heap_new w _ _ rfl) (by show ¬ (w.heap.size = c0 ∨ w.heap.size = b0); have := HC.out.lt; have := HBB.out.lt; omega)
          have hpw2 : wi.heap[p]? = some (.cells #[.slice (some ⟨c0, 0, none⟩) K K, .slice (some ⟨b0, 0, none⟩) K K] 68 (0, 0)) := hin.heap HPR.out (by show ¬ (p = c0 ∨ p = b0 ∨ p = r ∨ p = s); omega)
          have hbx2 := hin.heap hbx (by show ¬ (w.heap.size = c0 ∨ w.heap.size = b0 ∨ w.heap.size = r ∨ w.heap.size = s); have := HC.out.lt; have := HBB.out.lt; omega)
          refine ⟨blk_cell hpw2 0, blk_cell hpw2 1, blk_cell hbx2 5, gb.rc.keep hk (by show ¬ (c0 = r ∨ c0 = s); omega), gb.rb.keep hk (by show ¬ (b0 = r ∨ b0 = s); omega), fun g h1 h2 => ?_, ?_⟩
          · obtain ⟨r', s', e1, e2, e3, e4, e5, e6, e7, e8, e9, e10⟩ := tm.rows g h1 h2
            exact ⟨r', s', e1, e2, Row.keep e3 hin (by show ¬ (r' = c0 ∨ r' = b0 ∨ r' = r ∨ r' = s); omega), Row.keep e4 hin (by show ¬ (s' = c0 ∨ s' = b0 ∨ s' = r ∨ s' = s); omega), e5, e6, e7, e8, by have := hin.size; omega, by have := hin.size; omega⟩
          · have hb1 := HKP.out.below (B := w0.heap.size) (by simp; omega) fun k hk3 => by show ¬ (k = c0 ∨ k = b0); omega
            have hb2 := hin.below (B := w0.heap.size) (by omega) fun k hk3 => by show ¬ (k = c0 ∨ k = b0 ∨ k = r ∨ k = s); omega
            exact H10.out.keep (((HB.out.alloc hBs _).trans hb1).trans hb2)
        have HEV := Lib.hid hev
        clear hev
        obtain ⟨gG, rfl⟩ : ∃ g : Nat, g = gk := ⟨_, rfl⟩
        go_wp2
        go_loopg [36] n (fun g v36 wi => ∃ (L : Nat) (vG : Nat → Int) (bG : Nat → Nat), v36 = .int .i64 L ∧ L + g = n ∧ Hid (Arr wi r n vG) ∧ Hid (ArrN wi s n bG) ∧ Hid (∀ l, l < L → BE (elt I) n cost G l (vG l) (bG l)) ∧ Hid (Keep (fun k => k = r ∨ k = s) wc wi))
        case atStart => exact ⟨0, _, _, rfl, by omega, Lib.hid HGB.out.ar, Lib.hid HGB.out.as_, Lib.hid (fun l h => absurd h (by omega)), Lib.hid (Keep.refl _ _)⟩
        case round =>
          obtain ⟨L, vG, bG, rfl, hLg, HAR, HAS, HBE, HKI⟩ := hrel
          by_cases cL : L < n
          · have ev := HEV.out wr HKI.out
            have q0 := ev.q0
            have q1 := ev.q1
            have q5 := ev.q5
            have hcG := ev.rc.cell cG
            have hrL := Arr.cell HAR.out cL
            have hrf := Row.free HAR.out L
            have hLi : (L : Int) < (n : Int) := by omega
            rw [upd_same] at hcG
            clear ev
            go_upto_region 9 with (fail)
            go_cut [] (fun w9 => Hid (Arr w9 r n (upd vG L 1152921504606846976)) ∧ Hid (ArrN w9 s n bG) ∧ Hid (Keep (fun k => k = r ∨ k = s) wc w9))
            case first =>
              go_wp2
              go_meet
              exact ⟨Lib.hid (HAR.out.set L _), Lib.hid (Row.far HAS.out (by show s ≠ r; exact HGB.out.ne.symm) _), Lib.hid (HKI.out.setCell (.inl rfl) _)⟩
            case rest =>
              clear q0 q1 q5 hcG hrL hrf HAR HAS HKI
              obtain ⟨HAR, HAS, HKI⟩ := hcut
              obtain ⟨w9, rfl⟩ : ∃ w9 : World, w9 = wc := ⟨_, rfl⟩
              have ev := HEV.out w9 HKI.out
              have q0 := ev.q0
              have q1 := ev.q1
              have q5 := ev.q5
              have hcG := ev.rc.cell cG
              have hrL := Arr.cell HAR.out cL
              have hrf := Row.free HAR.out L
              rw [upd_same] at hcG hrL
              have hGb : G < 4611686018427387904 := by have := HK.out; omega
              have hbf := bit_form (L := L) hGb
              rcases hbit : G.testBit L with _ | _
              · have HBIT := Lib.hid hbit
                rw [hbit] at hbf
                clear ev hbit
                go_wp2
                go_roundg (gk - 1)
                case measure => omega
                case rel =>
                  refine ⟨L + 1, upd vG L 1152921504606846976, bG, by go_num, by omega, HAR, HAS, Lib.hid (fun l hl => ?_), HKI⟩
                  by_cases e : l = L
                  · subst e; rw [upd_same]
                    exact ⟨fun _ => rfl, (fun h => absurd h (by rw [HBIT.out]; simp)), (fun h => absurd h (by rw [HBIT.out]; simp))⟩
                  · rw [upd_other _ e]; exact HBE.out l (by omega)
              · have HBIT := Lib.hid hbit
                rw [hbit] at hbf
                have hcf := clr_form hGb (show L ≤ 30 by omega) hbit
                have hclt := clr_lt hbit
                obtain ⟨R, hR⟩ : ∃ R, clr G L = R := ⟨_, rfl⟩
                rw [hR] at hcf hclt
                have HR := Lib.hid hR
                have EV := Lib.hid ev
                clear hbit hR
                by_cases cR : R = 0
                · subst cR
                  have hcf0 : (bits .andNot .i64 (G : Int) (wrap64 (2 ^ L)) == 0) = true := by rw [hcf]; rfl
                  have hq00 := ev.inp.at_ (j := 0) (by rw [HCL.out]; omega)
                  obtain ⟨ad, B, cc, e1, hx, hxc, hB0⟩ := hq00
                  obtain ⟨ad2, e2, hy⟩ := hB0.at_ (j := L + 1) (by rw [HRL.out 0 (by omega)]; omega)
                  rw [HRL.out 0 (by omega)] at hx hxc
                  obtain ⟨X, hX⟩ : ∃ X, (I.cost.getD 0 []).getD (L + 1) 0 = X := ⟨_, rfl⟩
                  rw [hX, add_pos _ (by omega)] at hy
                  have hXe : elt I 0 (L + 1) = X := hX
                  have HX := Lib.hid hXe
                  clear hX hXe hB0 ev
                  subst e1 e2
                  have hx0 : w9.cell? ad = some (.slice (some ad2) (n + 1) cc) := hx
                  have hlt1 : ((L : Int) + 1) < (n : Int) + 1 := by omega
                  go_wp2
                  go_region
                  all_goals go_wp2
                  go_roundg (gk - 1)
                  case measure => omega
                  case rel =>
                    refine ⟨L + 1, upd (upd vG L 1152921504606846976) L X, bG, by go_num, by omega, Lib.hid (HAR.out.set L X), Lib.hid (Row.far HAS.out (by show s ≠ r; exact HGB.out.ne.symm) _), Lib.hid (fun l hl => ?_), Lib.hid ((HKI.out.setCell (p := ⟨r, L, none⟩) (.inl rfl) _).drew)⟩
                    by_cases e : l = L
                    · subst e; rw [upd_same]
                      exact ⟨(fun h => absurd h (by rw [HBIT.out]; simp)), (fun _ _ => HX.out.symm), (fun _ h => absurd HR.out h)⟩
                    · rw [upd_other _ e, upd_other _ e]; exact HBE.out l (by omega)
                · have hcf0 : (bits .andNot .i64 (G : Int) (wrap64 (2 ^ L)) == 0) = false := by rw [hcf]; simp; exact cR
                  have hRK : R < K := by omega
                  have hRb : R < 4611686018427387904 := by omega
                  have HRK := Lib.hid (show R < 2 ^ n by rw [HK.out]; exact hRK)
                  have CR := Lib.hid cR
                  have hR1 : 1 ≤ R := by omega
                  have hbd := HTAB.out.bounds (fun r c h1 h2 => by have := HOK.out r c (by omega) (by omega); unfold numOk at this; exact this) (by rw [HK.out]; omega) R hR1 hclt
                  have HBD := Lib.hid hbd
                  clear ev hbd cR
                  obtain ⟨gL, rfl⟩ : ∃ g : Nat, g = gk := ⟨_, rfl⟩
                  go_wp2
                  go_loopg [77] n (fun g v77 wi => ∃ (a : Nat) (v : Int) (bk : Nat), v77 = .int .i64 a ∧ a + g = n ∧ Hid (Arr wi r n (upd vG L v)) ∧ Hid (ArrN wi s n (upd bG L bk)) ∧ Hid (Part I n cost R L a v bk) ∧ Hid (Keep (fun k => k = r ∨ k = s) wc wi))
                  case atStart => exact ⟨0, _, bG L, rfl, by omega, HAR, Lib.hid (HAS.out.congr fun j _ => (upd_self bG L (bG L) rfl j).symm), Lib.hid ⟨.inl ⟨rfl, fun a' h => absurd h (by omega)⟩, fun a' h => absurd h (by omega)⟩, HKI⟩
                  case round =>
                    clear q0 q1 q5 hcG hrL hrf HAR HAS HKI EV
                    obtain ⟨a, v, bk, rfl, hag, HAR, HAS, HPT, HKI⟩ := hrel
                    by_cases ca : a < n
                    · have hai : (a : Int) < (n : Int) := by omega
                      have hbf2 := bit_form (L := a) hRb
                      rcases hbit : R.testBit a with _ | _
                      · rw [hbit] at hbf2
                        have HBIT2 := Lib.hid hbit
                        clear hbit
                        go_wp2
                        go_roundg (gk - 1)
                        case measure => omega
                        case rel => exact ⟨a + 1, v, bk, by go_num, by omega, HAR, HAS, Lib.hid (HPT.out.skip HBIT2.out), HKI⟩
                      · rw [hbit] at hbf2
                        have HBIT2 := Lib.hid hbit
                        have hbdR := HBD.out a ca hbit
                        clear hbit
                        have ev := HEV.out wr HKI.out
                        have q0 := ev.q0
                        have q1 := ev.q1
                        have q5 := ev.q5
                        have hcG := ev.rc.cell cG
                        have hbG := ev.rb.cell cG
                        rw [upd_same] at hcG hbG
                        have hcR := ev.rc.cell hRK
                        rw [upd_other _ (show R ≠ G by omega)] at hcR
                        obtain ⟨r', s', hr1, -, hr3, -⟩ := ev.rows R hR1 hclt
                        rw [hr1] at hcR
                        have hcv := hr3.cell ca
                        obtain ⟨Cv, hCv⟩ : ∃ x, cost R a = x := ⟨_, rfl⟩
                        rw [hCv] at hcv hbdR
                        have hrL := Arr.cell HAR.out cL
                        have hrf := Row.free HAR.out L
                        have hsL := ArrN.cell HAS.out cL
                        have hsf := Row.free HAS.out L
                        rw [upd_same] at hrL hsL
                        obtain ⟨ad, B, cc, e1, hx, hxc, hB0⟩ := ev.inp.at_ (j := a + 1) (by rw [HCL.out]; omega)
                        obtain ⟨ad2, e2, hy⟩ := hB0.at_ (j := L + 1) (by rw [HRL.out (a + 1) (by omega)]; omega)
                        rw [HRL.out (a + 1) (by omega), add_pos _ (by omega)] at hx
                        rw [HRL.out (a + 1) (by omega)] at hxc
                        obtain ⟨X, hX⟩ : ∃ X, (I.cost.getD (a + 1) []).getD (L + 1) 0 = X := ⟨_, rfl⟩
                        rw [hX, add_pos _ (by omega)] at hy
                        have hXe : elt I (a + 1) (L + 1) = X := hX
                        have hXb := HOK.out (a + 1) (L + 1) (by omega) (by omega)
                        rw [hXe] at hXb
                        unfold numOk at hXb
                        have HX := Lib.hid hXe
                        have HCV := Lib.hid hCv
                        have hsr : s ≠ r := HGB.out.ne.symm
                        have hRi : (R : Int) ≤ 2048 := by have h1 := HRK.out; have h2 := HK.out; have h3 : K ≤ 2048 := by rw [← h2]; exact hpw
                                                          clear hcf; omega
                        have hRM : (R : Int) * 2147483647 ≤ 2048 * 2147483647 := Int.mul_le_mul_of_nonneg_right hRi (by decide)
                        have hCvb : 0 ≤ Cv ∧ Cv ≤ 4398046509056 := by omega
                        clear hbdR hRM hX hXe hCv hB0 hr1 hr3 ev
                        subst e1 e2
                        have hlt1 : ((L : Int) + 1) < (n : Int) + 1 := by omega
                        have hlt2 : ((a : Int) + 1) < (n : Int) + 1 := by omega
                        have hlt3 : (R : Int) < (K : Int) := by omega
                        go_wp2
                        go_quiet (fail)
                        all_goals go_wp2
                        case _ =>
                          go_region
                          all_goals go_wp2
                          go_roundg (gk - 1)
                          case measure => omega
                          case rel =>
                            refine ⟨a + 1, Cv + X, a, by go_num, by omega, Lib.hid ?_, Lib.hid ?_, Lib.hid ?_, Lib.hid ?_⟩
                            · exact Row.far ((HAR.out.set L (Cv + X)).congr fun j _ => by by_cases e : j = L <;> simp [upd, e]) (by show r ≠ s; exact hsr.symm) _
                            · exact (ArrN.set (f := upd bG L bk) (Row.far (p := ⟨r, L, none⟩) HAS.out hsr (.int .i64 (Cv + X))) L a).congr fun j _ => by by_cases e : j = L <;> simp [upd, e]
                            · have := HPT.out.less ca HBIT2.out (by rw [HCV.out, HX.out]; omega)
                              rw [HCV.out, HX.out] at this
                              exact this
                            · exact ((HKI.out.drewN _).setCell (p := ⟨r, L, none⟩) (.inl rfl) _).setCell (p := ⟨s, L, none⟩) (.inr rfl) _
                        case _ =>
                          go_roundg (gk - 1)
                          case measure => omega
                          case rel =>
                            exact ⟨a + 1, v, bk, by go_num, by omega, HAR, HAS, Lib.hid (HPT.out.more (by rw [HCV.out, HX.out]; omega) (by rw [HCV.out, HX.out]; omega)), Lib.hid (HKI.out.drewN _)⟩
                    · have ea : a = n := by omega
                      go_wp2
                      go_roundg (gL - 1)
                      case measure => omega
                      case rel =>
                        refine ⟨L + 1, upd vG L v, upd bG L bk, by go_num, by omega, HAR, HAS, Lib.hid (fun l hl => ?_), HKI⟩
                        by_cases e : l = L
                        · subst e
                          rw [upd_same, upd_same]
                          have := HPT.out
                          rw [ea] at this
                          exact this.done HR.out HBIT.out CR.out HRK.out
                        · rw [upd_other _ e, upd_other _ e]; exact HBE.out l (by omega)
          · have ea : L = n := by omega
            go_wp2
            go_roundg (gG - 1)
            case measure => omega
            case rel =>
              have ev := HEV.out wr HKI.out
              have gb := HGB.out
              have tm := HTM.out
              have hcl := tm.rc.lt
              have hbl := tm.rb.lt
              have hr1 := gb.ge.1
              have hs1 := gb.ge.2
              have hin : Keep (fun k => k = c0 ∨ k = b0 ∨ k = r ∨ k = s) wg wr := (gb.k.weaken fun k _ h => by rcases h with h | h <;> simp [h]).trans (HKI.out.weaken fun k _ h => by rcases h with h | h <;> simp [h])
              have hGb : G < 4611686018427387904 := by have := HK.out; omega
              refine ⟨G + 1, congrArg (Value.int .i64) (show wrap64 ((G : Int) + 1) = ((G + 1 : Nat) : Int) by unfold wrap64; omega), by omega, by omega, Lib.hid ⟨wr.heap.size, _, _, upd cost G vG, upd back G bG, HTAB.out.next (fun l hl => HBE.out l (by omega)), ⟨ev.rc, ev.rb, Nat.le_refl _, fun g h1 h2 => ?_⟩, HKP.out.trans (hin.weaken fun k hk h => by omega)⟩⟩
              by_cases e : g = G
              · subst e
                rw [upd_same, upd_same, upd_same, upd_same]
                exact ⟨r, s, rfl, rfl, HAR.out, HAS.out, by omega, by omega, by omega, by omega, Row.lt HAR.out, Row.lt HAS.out⟩
              · rw [upd_other _ e, upd_other _ e, upd_other _ e, upd_other _ e]
                exact ev.rows g h1 (by omega)
    · have eG : G = K := by omega
      have cG' : ¬ (G : Int) < wrap64 (2 ^ n) := by rw [wrap_pow (by omega), HK.out]; omega
      go_wp2
      go_end0
      refine ⟨rfl, ?_⟩
      have h := HGR.out
      rw [eG] at h
      rw [HK.out]
      obtain ⟨bnd, fc, fb, cost, back, h1, h2, h3⟩ := h
      exact ⟨bnd, fc, fb, cost, back, h1, h2, ((Keep.refl _ w).alloc _).trans h3⟩
end Go.Proofs.YtmfgffmlnfimcaaDoor
