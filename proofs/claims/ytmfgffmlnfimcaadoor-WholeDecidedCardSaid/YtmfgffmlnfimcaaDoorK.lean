/- The walk of exact.Assignment. -/
import Derived.Test.YtmfgffmlnfimcaaDoorJ
namespace Go.Proofs.YtmfgffmlnfimcaaDoor
open Go Go.RowKit Go.Deep

theorem mk_ints0 (n : Nat) (hn : n ≤ 1000000) : ∀ W : World, (Instr.makeSlice 22 (.int .i64 (n : Int)) (.int .i64 (n : Int))).run Tryd.prog W = .ok (.slice (some ⟨W.heap.size, 0, none⟩) n n) (W.alloc (.cells (madeCells #[.int .i64 0] n) 3)) := by
  intro W
  exact run_make_row' (P := Tryd.prog) 22 3 (.int .i64 0) 8 Tryd.underlying22 (by kernel_rfl) rfl .i64 .i64 n (by omega) (by omega) W

/-- Which row has which column, when the first k columns have been gone through. -/
def xTo (has : Nat → Nat) : Nat → Nat → Nat
  | 0 => fun _ => 0
  | k + 1 => upd (xTo has k) (has (k + 1) - 1) k

theorem xTo_is {has : Nat → Nat} {n : Nat} (h : Inj n fun c => has (c + 1) - 1) : ∀ k, k ≤ n → ∀ c, c < k → xTo has k (has (c + 1) - 1) = c
  | 0, _, c, hc => by omega
  | k + 1, hk, c, hc => by
    unfold xTo
    by_cases e : c = k
    · subst e; exact upd_same _ _ _
    · rw [upd_other _ (fun e2 => e (h.2 c k (by omega) (by omega) e2))]
      exact xTo_is h k (by omega) c (by omega)

theorem ints_arr {w : World} {g n : Nat} {f : Nat → Nat} (h : ArrN w g n f) : IntsAt w (some ⟨g, 0, none⟩) ((List.range n).map fun j => ((f j : Nat) : Int)) := by
  intro _
  refine ⟨_, rfl, fun j hj => ?_⟩
  have hjn : j < n := by simpa using hj
  have ha : (⟨g, 0, none⟩ : Addr).add j = ⟨g, j, none⟩ := by unfold Addr.add; split <;> simp_all
  rw [ha, h.cell hjn]
  simp [List.getD_eq_getElem?_getD, hjn]

theorem getD_range {n : Nat} (f : Nat → Nat) {j : Nat} (hj : j < n) : ((List.range n).map fun j => ((f j : Nat) : Int)).getD j 0 = f j := by
  simp [List.getD_eq_getElem?_getD, hj]

/-- What a best answer is. -/
def Opt (I : Inst) (x : List Int) : Prop := Feas I x ∧ ∀ y, Feas I y → costOf I x ≤ costOf I y

/-- What exact's functions tell. -/
def Tells (I : Inst) (w : World) (e : Ending) (w' : World) : Prop :=
  ∃ (x : List Int) (A : Option Addr) (c : Nat), e = .returned (.tuple #[.slice A x.length c, .int .i64 (costOf I x), .int .i64 0]) ∧ Opt I x ∧ x.length ≤ c ∧ IntsAt w' A x ∧ Below w.heap.size w w'

/-- The prices as they are made. -/
structure Made5 (w : World) (A : Option Addr) (n c p g1 g2 g3 g4 : Nat) (wc : World) : Prop where
  pb : PB wc p A c n g1 g2 g3 g4
  a1 : Arr wc g1 (n + 1) fun _ => 0
  a2 : Arr wc g2 (n + 1) fun _ => 0
  a3 : ArrN wc g3 (n + 1) fun _ => 0
  a4 : ArrN wc g4 (n + 1) fun _ => 0
  hd : p ≠ g1 ∧ p ≠ g2 ∧ p ≠ g3 ∧ p ≠ g4 ∧ g1 ≠ g2 ∧ g1 ≠ g3 ∧ g1 ≠ g4 ∧ g2 ≠ g3 ∧ g2 ≠ g4 ∧ g3 ≠ g4
  ge : w.heap.size ≤ g1 ∧ w.heap.size ≤ g2 ∧ w.heap.size ≤ g3 ∧ w.heap.size ≤ g4 ∧ w.heap.size ≤ p
  bl : Below w.heap.size w wc

theorem made5 (w : World) (A : Option Addr) (n c g1 g2 g3 g4 : Nat) (h1 : w.heap.size ≤ g1 ∧ g1 < w.heap.size + 4) (h2 : w.heap.size ≤ g2 ∧ g2 < w.heap.size + 4) (h3 : w.heap.size ≤ g3 ∧ g3 < w.heap.size + 4) (h4 : w.heap.size ≤ g4 ∧ g4 < w.heap.size + 4)
    (d1 : g1 ≠ g2) (d2 : g1 ≠ g3) (d3 : g1 ≠ g4) (d4 : g2 ≠ g3) (d5 : g2 ≠ g4) (d6 : g3 ≠ g4) :
    Made5 w A n c (w.heap.size + 4) g1 g2 g3 g4 (((((w.alloc (.cells (madeCells #[.int .i64 0] (n + 1)) 3)).alloc (.cells (madeCells #[.int .i64 0] (n + 1)) 3)).alloc (.cells (madeCells #[.int .i64 0] (n + 1)) 3)).alloc (.cells (madeCells #[.int .i64 0] (n + 1)) 3)).alloc
      (.cells #[.slice A n c, .slice (some ⟨g1, 0, none⟩) (n + 1) (n + 1), .slice (some ⟨g2, 0, none⟩) (n + 1) (n + 1), .slice (some ⟨g3, 0, none⟩) (n + 1) (n + 1), .slice (some ⟨g4, 0, none⟩) (n + 1) (n + 1)] 62)).drew := by
  generalize hM : (Obj.cells (madeCells #[Value.int .i64 0] (n + 1)) 3) = M
  have row : ∀ g, w.heap.size ≤ g ∧ g < w.heap.size + 4 → ∀ o, Row (((((w.alloc M).alloc M).alloc M).alloc M).alloc o) g 3 (n + 1) (fun _ => .int .i64 0) := by
    intro g hg o
    subst hM
    rcases (show g = w.heap.size ∨ g = w.heap.size + 1 ∨ g = w.heap.size + 2 ∨ g = w.heap.size + 3 by omega) with e | e | e | e <;> subst e
    · exact ((((Row.made w 3 _ _).alloc _).alloc _).alloc _).alloc _
    · have h := (((Row.made (w.alloc (.cells (madeCells #[.int .i64 0] (n + 1)) 3)) 3 (.int .i64 0) (n + 1)).alloc (.cells (madeCells #[.int .i64 0] (n + 1)) 3)).alloc (.cells (madeCells #[.int .i64 0] (n + 1)) 3)).alloc o
      simpa using h
    · have h := ((Row.made ((w.alloc (.cells (madeCells #[.int .i64 0] (n + 1)) 3)).alloc (.cells (madeCells #[.int .i64 0] (n + 1)) 3)) 3 (.int .i64 0) (n + 1)).alloc (.cells (madeCells #[.int .i64 0] (n + 1)) 3)).alloc o
      simpa using h
    · have h := (Row.made (((w.alloc (.cells (madeCells #[.int .i64 0] (n + 1)) 3)).alloc (.cells (madeCells #[.int .i64 0] (n + 1)) 3)).alloc (.cells (madeCells #[.int .i64 0] (n + 1)) 3)) 3 (.int .i64 0) (n + 1)).alloc o
      simpa using h
  refine ⟨heap_new _ _ _ (by simp), row g1 h1 _, row g2 h2 _, row g3 h3 _, row g4 h4 _, ⟨by omega, by omega, by omega, by omega, d1, d2, d3, d4, d5, d6⟩, ⟨h1.1, h2.1, h3.1, h4.1, by omega⟩, ?_⟩
  exact ((((((Below.refl _ _).alloc (Nat.le_refl _) _).alloc (by simp) _).alloc (by simp; omega) _).alloc (by simp; omega) _).alloc (by simp; omega) _).drew

/-- Between two rows. -/
def RowsR (C : Nat → Nat → Int) (n p : Nat) (A : Option Addr) (c g1 g2 g3 g4 : Nat) (wc : World) (k : Nat) (wr : World) : Prop :=
  ∃ (row col : Nat → Int) (has from_ : Nat → Nat), Hung C n k row col has ∧ (∀ c, c ≤ n → has c ≤ n) ∧ PB wr p A c n g1 g2 g3 g4 ∧ Arr wr g1 (n + 1) row ∧ Arr wr g2 (n + 1) col ∧ ArrN wr g3 (n + 1) has ∧ ArrN wr g4 (n + 1) from_ ∧ Keep (G4 g1 g2 g3 g4) wc wr

theorem Hung.zero {C : Nat → Nat → Int} {n : Nat} (hC : Small C n) : Hung C n 0 (fun _ => 0) (fun _ => 0) (fun _ => 0) :=
  ⟨⟨fun i c h1 h2 h3 h4 => by unfold sl; have := hC (i - 1) (c - 1) (by omega) (by omega); dsimp only; omega, fun _ _ _ => Int.le_refl _, fun _ _ _ => Int.le_refl _, fun _ _ _ => rfl⟩,
    fun _ _ _ => Nat.le_refl _, fun _ _ _ _ _ _ _ h => absurd rfl h, fun i h1 h2 => by omega, fun _ _ _ h => absurd rfl h, fun _ _ _ _ => rfl⟩

set_option maxRecDepth 100000 in
set_option maxHeartbeats 4000000 in
theorem assignment_any (I : Inst) (hI : WF I) (hk : I.kind = 2) (v : Value) (w : World) (hv : InstAt w v I) : Calls Tryd.prog 28 #[v] w (Tells I w) := by
  obtain ⟨n, hn, hn1, hn2, -, hcl, -, -, -, hrl, hok, -⟩ := hI.rows (by omega)
  have htk := fun W hv => takes_any I hI v W hv ⟨by omega, by omega⟩
  have htd := fun A c x W hv hA hx => told_any I hI v A c x W hv hA hx
  rw [hk] at htk
  have HTK := Lib.hid htk
  have HTD := Lib.hid htd
  have HI := Lib.hid hI
  have HV := Lib.hid hv
  have HK := Lib.hid hk
  have HN := Lib.hid hn
  have HCL := Lib.hid hcl
  have HRL := Lib.hid hrl
  have HOK := Lib.hid hok
  obtain ⟨A1, c1, A2, c2, A3, c3, rfl, -, -, -, -, -, -, -, -, -, h10⟩ := hv
  have H10 := Lib.hid h10
  rw [hcl, hn, hk] at HV HTK HTD ⊢
  have hmk := mk_ints n (by omega)
  have hm0 := mk_ints0 n (by omega)
  clear htk htd hI hk hcl hrl hok h10 hn
  generalize I.ws.length = l1 at *
  generalize I.vs.length = l2 at *
  go_enter Tryd.func28, Tryd.ntmps28
  go_wp2_with fail
  refine (HTK.out _ (HV.out.keep ((Below.refl _ _).alloc (Nat.le_refl _) _))).mono ?_
  rintro e w1 ⟨rfl, hb1⟩
  have HB1 := Lib.hid hb1
  obtain ⟨hc1, hf1⟩ := bcell hb1
  have hz1 : w.heap.size < w1.heap.size := by have := hb1.size; simp at this; omega
  have q0 : w1.cell? ⟨w.heap.size, 5, none⟩ = some (.slice A3 n c3) := by rw [hc1 w.heap.size 5 (by simp)]; simp
  have al : ∀ (W : World) (o : Obj) (p : Addr) (v : Value), W.cell? p = some v → (W.alloc o).cell? p = some v := fun W o p v h => cell_keep ((Below.refl _ _).alloc (Nat.le_refl _) o) h
  have q1 := fun o1 => al _ o1 _ _ q0
  have q2 := fun o1 o2 => al _ o2 _ _ (q1 o1)
  have q3 := fun o1 o2 o3 => al _ o3 _ _ (q2 o1 o2)
  have q4 := fun o1 o2 o3 o4 => al _ o4 _ _ (q3 o1 o2 o3)
  clear al
  clear hb1
  go_upto_region 5 with (fail)
  clear hc1 hf1
  go_cut [7] (fun v7 wc => ∃ p g1 g2 g3 g4 : Nat, v7 = .pointer (some ⟨p, 0, none⟩) ∧ Hid (Made5 w1 A3 n c3 p g1 g2 g3 g4 wc))
  case first =>
    go_region
    all_goals go_wp2
    all_goals go_meet
    all_goals exact ⟨_, _, _, _, _, rfl, Lib.hid (made5 w1 A3 n c3 _ _ _ _ (by omega) (by omega) (by omega) (by omega) (by omega) (by omega) (by omega) (by omega) (by omega) (by omega))⟩
  case rest =>
    clear q1 q2 q3 q4
    obtain ⟨p, g1, g2, g3, g4, rfl, HM5⟩ := hcut
    have hC : Small (fun a b => (I.cost.getD a []).getD b 0) n := fun r c h1 h2 => by have := HOK.out r c h1 h2; unfold numOk elt at this; exact this
    have HC := Lib.hid hC
    have hz2 : w.heap.size < wc.heap.size := by have := HM5.out.bl.size; omega
    have hBc : Below w.heap.size w wc := (keep_box HB1.out).trans (HM5.out.bl.mono (by omega))
    have HBC := Lib.hid hBc
    have hbox : ∀ wr, Keep (G4 g1 g2 g3 g4) wc wr → Below (w.alloc (.cells #[.int .i64 2, .int .i64 n, .int .i64 I.cap, .slice A1 l1 c1, .slice A2 l2 c2, .slice A3 n c3] 25)).heap.size (w.alloc (.cells #[.int .i64 2, .int .i64 n, .int .i64 I.cap, .slice A1 l1 c1, .slice A2 l2 c2, .slice A3 n c3] 25)) wr := by
      intro wr hk
      have h1 := HM5.out.bl
      have h2 := HM5.out.ge
      have h0 := HB1.out.size
      refine (HB1.out.trans (h1.mono h0)).trans (hk.below ?_ ?_)
      · have := h1.size; omega
      · intro k hk hg
        rcases hg with h | h | h | h <;> omega
    have HBOX := Lib.hid hbox
    clear hC hBc hbox
    go_wp2
    go_loopg [8] n (fun g v8 wr => ∃ r : Nat, v8 = .int .i64 r ∧ 1 ≤ r ∧ r + g = n + 1 ∧ Hid (RowsR (fun a b => (I.cost.getD a []).getD b 0) n p A3 c3 g1 g2 g3 g4 wc (r - 1) wr))
    case atStart =>
      have m := HM5.out
      exact ⟨1, rfl, by omega, by omega, Lib.hid ⟨_, _, _, _, Hung.zero HC.out, fun _ _ => Nat.zero_le _, m.pb, m.a1, m.a2, m.a3, m.a4, Keep.refl _ _⟩⟩
    case round =>
      obtain ⟨r, rfl, hr1, hrg, HR⟩ := hrel
      obtain ⟨row, col, has, from_, hH, hhn, hpb, ha1, ha2, ha3, ha4, hkp⟩ := HR.out
      have hB := HBOX.out wr hkp
      have HKP := Lib.hid hkp
      by_cases crn : r ≤ n
      · have hi : (r : Int) ≤ (n : Int) := by omega
        have m := HM5.out
        have hgrow := grow_any n p A3 c3 g1 g2 g3 g4 I.cost row col has from_ r w wr hn2 hr1 crn HCL.out HRL.out H10.out (keep_box hB) ⟨by have := m.ge; omega, by have := m.ge; omega, by have := m.ge; omega, by have := m.ge; omega⟩ HC.out hH hpb ha1 ha2 ha3 ha4 m.hd
        have HG := Lib.hid hgrow
        clear m hgrow hH hhn hpb ha1 ha2 ha3 ha4 hkp hB
        go_wp2_with fail
        refine HG.out.mono ?_
        rintro e w2 ⟨at_, row2, col2, has2, from2, k, h', rfl, hpb, ha1, ha2, ha3, ha4, hkp, hT, hH, hb⟩
        have HTU := Lib.hid (turn_any n p A3 c3 g1 g2 g3 g4 from2 has2 h' k at_ w2 hn2 hpb HM5.out.hd.2.2.1 HM5.out.hd.2.2.2.2.2.2.2.2.2.symm ha3 ha4 hT)
        have HX := Lib.hid (And.intro hpb (And.intro ha1 (And.intro ha2 (And.intro ha4 (And.intro hkp (And.intro hH hb))))))
        clear hpb ha1 ha2 ha3 ha4 hkp hT hH hb
        go_wp2_with fail
        refine HTU.out.mono ?_
        rintro e w3 ⟨rfl, ha3, hk3⟩
        have HY := Lib.hid (And.intro ha3 hk3)
        clear ha3 hk3
        go_wp2
        go_roundg (gk - 1)
        case measure => omega
        case rel =>
          obtain ⟨hpb, ha1, ha2, ha4, hkp, hH, hb⟩ := HX.out
          obtain ⟨ha3, hk3⟩ := HY.out
          have m := HM5.out
          have hk3' : Keep (G4 g1 g2 g3 g4) w2 w3 := hk3.weaken fun k _ h => .inr (.inr (.inl h))
          refine ⟨r + 1, by go_num, by omega, by omega, Lib.hid ⟨row2, col2, h', from2, by rw [Nat.add_sub_cancel]; exact hH, hb, hk3.heap hpb m.hd.2.2.1, ha1.keep hk3 m.hd.2.2.2.2.2.1, ha2.keep hk3 m.hd.2.2.2.2.2.2.2.1, ha3, ha4.keep hk3 m.hd.2.2.2.2.2.2.2.2.2.symm, (HKP.out.trans hkp).trans hk3'⟩⟩
      · have hrn : r = n + 1 := by omega
        subst hrn
        have hi : ¬ ((n + 1 : Nat) : Int) ≤ (n : Int) := by omega
        rw [Nat.add_sub_cancel] at HR
        have HHH := Lib.hid (And.intro hH (And.intro hhn (And.intro hpb ha3)))
        have HB2 := Lib.hid hB
        clear hH hhn hpb ha1 ha2 ha3 ha4 hkp hB
        obtain ⟨wa, rfl⟩ : ∃ wa : World, wa = wr := ⟨_, rfl⟩
        have hzr : w.heap.size < wa.heap.size := by have := HB2.out.size; simp at this; omega
        go_wp2
        go_loopg [10] n (fun g v10 wq => ∃ cc : Nat, v10 = .int .i64 cc ∧ 1 ≤ cc ∧ cc + g = n + 1 ∧ Hid (ArrN wq wa.heap.size n (xTo has (cc - 1))) ∧ Hid (Keep (fun _ => False) wa wq))
        case atStart =>
          refine ⟨1, rfl, by omega, by omega, Lib.hid ?_, Lib.hid ((Keep.refl _ _).alloc _)⟩
          have h := Row.made wa 3 (.int .i64 0) n
          exact h
        case round =>
          obtain ⟨cc, rfl, hc1, hcg, HX, HK2⟩ := hrel
          by_cases ccn : cc ≤ n
          · have hi2 : (cc : Int) ≤ (n : Int) := by omega
            have hi3 : (cc : Int) < (n : Int) + 1 := by omega
            have hpb : PB wr p A3 c3 n g1 g2 g3 g4 := HK2.out.heap HHH.out.2.2.1 (fun h => h)
            obtain ⟨-, -, -, hq3, -⟩ := hpb.cells
            have hch := ArrN.cell (Row.keep HHH.out.2.2.2 HK2.out (fun h => h)) (show cc < n + 1 by omega)
            have hne := HHH.out.1.best.1 cc hc1 ccn
            obtain ⟨h, hh⟩ : ∃ h, has cc = h := ⟨_, rfl⟩
            rw [hh] at hch hne
            have hhn : h ≤ n := by rw [← hh]; exact HHH.out.2.1 cc (by omega)
            have HHX := Lib.hid hh
            have hcx := ArrN.cell HX.out (show h - 1 < n by omega)
            have hfx := Row.free HX.out (h - 1)
            have e1 : ((h : Int) - 1).toNat = h - 1 := by omega
            have i1 : 0 ≤ (h : Int) - 1 := by omega
            have i2 : (h : Int) - 1 < (n : Int) := by omega
            clear hpb hh
            go_wp2
            go_roundg (gk - 1)
            case measure => omega
            case rel =>
              refine ⟨cc + 1, by go_num, by omega, by omega, Lib.hid ?_, Lib.hid (HK2.out.setNew (by show wa.heap.size ≤ wa.heap.size; omega) _)⟩
              have hs := ArrN.set HX.out (h - 1) (cc - 1)
              rw [show ((cc - 1 : Nat) : Int) = (cc : Int) - 1 by omega] at hs
              refine ArrN.congr hs fun j _ => ?_
              obtain ⟨k, rfl⟩ : ∃ k, cc = k + 1 := ⟨cc - 1, by omega⟩
              simp only [Nat.add_sub_cancel]
              rw [xTo, HHX.out]
          · have hcc : cc = n + 1 := by omega
            have hx := HX.out
            rw [hcc, Nat.add_sub_cancel] at hx
            obtain ⟨hne, hInj, hbest⟩ := HHH.out.1.best
            have hxis := xTo_is hInj n (Nat.le_refl _)
            have hxr : ∀ r, r < n → ∃ c, c < n ∧ has (c + 1) - 1 = r ∧ xTo has n r = c := by
              intro r hr
              obtain ⟨c, h1, h2⟩ := hInj.onto r hr
              exact ⟨c, h1, h2, by rw [← h2]; exact hxis c h1⟩
            have hperm : PermL n ((List.range n).map fun j => ((xTo has n j : Nat) : Int)) := by
              refine ⟨by simp, fun j hj => ?_, fun j k hj hk e => ?_⟩
              · rw [getD_range _ hj]
                obtain ⟨c, h1, _, h3⟩ := hxr j hj
                omega
              · rw [getD_range _ hj, getD_range _ hk] at e
                obtain ⟨c, h1, h2, h3⟩ := hxr j hj
                obtain ⟨d, h4, h5, h6⟩ := hxr k hk
                have : c = d := by omega
                subst this
                omega
            have hfe : Feas I ((List.range n).map fun j => ((xTo has n j : Nat) : Int)) := by
              refine ⟨fun h => by have := HK.out; omega, fun _ => ⟨?_, fun h => by have := HK.out; omega⟩⟩
              rw [HN.out, Int.toNat_natCast]; exact hperm
            have hopt : Opt I ((List.range n).map fun j => ((xTo has n j : Nat) : Int)) := by
              refine ⟨hfe, fun y hy => ?_⟩
              have hyp := (hy.2 (by have := HK.out; omega)).1
              rw [HN.out, Int.toNat_natCast] at hyp
              unfold costOf
              rw [if_neg (by have := HK.out; omega), if_pos HK.out, if_neg (by have := HK.out; omega), if_pos HK.out, HN.out, Int.toNat_natCast]
              have := hbest (xTo has n) (fun j => (y.getD j 0).toNat) hyp.inj hxis
              unfold aC
              rw [sumTo_congr (f := fun j => elt I j (((List.range n).map fun j => ((xTo has n j : Nat) : Int)).getD j 0).toNat) (g := fun r => (I.cost.getD r []).getD (xTo has n r) 0) (fun j hj => by rw [getD_range _ hj, Int.toNat_natCast]; rfl)]
              exact this
            have hlen : ((List.range n).map fun j => ((xTo has n j : Nat) : Int)).length = n := by simp
            have hints := ints_arr hx
            have hBw := HB2.out.trans (HK2.out.below (B := (w.alloc (.cells #[.int .i64 2, .int .i64 n, .int .i64 I.cap, .slice A1 l1 c1, .slice A2 l2 c2, .slice A3 n c3] 25)).heap.size) HB2.out.size (fun _ _ h => h))
            obtain ⟨X, hX⟩ : ∃ X, ((List.range n).map fun j => ((xTo has n j : Nat) : Int)) = X := ⟨_, rfl⟩
            rw [hX] at hfe hopt hlen hints
            have htd := HTD.out (some ⟨wa.heap.size, 0, none⟩) n X wr (HV.out.keep (keep_box hBw)) hints hfe
            rw [hlen] at htd
            have HTT := Lib.hid htd
            have HOP := Lib.hid hopt
            have HIN := Lib.hid hints
            have HBW := Lib.hid hBw
            have HLN := Lib.hid hlen
            have hi2 : ¬ (cc : Int) ≤ (n : Int) := by omega
            obtain ⟨hcx, hfx⟩ := bcell hBw
            clear hcc hx hne hInj hbest hxis hxr hperm hfe hopt hlen hints hBw hX htd hc1 hcg ccn
            go_wp2_with fail
            refine HTT.out.mono ?_
            rintro e w5 ⟨rfl, hb5⟩
            have HB5 := Lib.hid hb5
            clear hb5 hcx hfx
            go_wp2
            go_ret3
            refine ⟨X, some ⟨wa.heap.size, 0, none⟩, n, by rw [HLN.out]; rfl, HOP.out, by rw [HLN.out]; exact Nat.le_refl _, HIN.out.keep HB5.out, keep_box (HBW.out.trans (HB5.out.mono HBW.out.size))⟩
end Go.Proofs.YtmfgffmlnfimcaaDoor
