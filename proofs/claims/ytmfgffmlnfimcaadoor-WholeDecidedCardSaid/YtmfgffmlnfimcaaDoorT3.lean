/- The walk of WholeDecided: the refused cases; assignments. -/
import Derived.Test.YtmfgffmlnfimcaaDoorJo
import Derived.BigRegion
namespace Go.Proofs.YtmfgffmlnfimcaaDoor
open Go Go.RowKit Go.Shelf Go.Sort Go.Deep

set_option maxRecDepth 200000 in
theorem decided_no (I : Inst) (h : ¬ (WF I ∧ isLarge I = true)) (v a : Value) (w : World) (hv : InstAt w v I) : Calls Tryd.prog 3 #[v, a] w fun e w' => e = .returned (.bool true) ∧ Below w.heap.size w w' := by
  have HS := Lib.hid (fun W => stands_any W)
  have HLG := Lib.hid (fun W hv => large_false I h v W hv)
  have HV := Lib.hid hv
  obtain ⟨A1, c1, A2, c2, A3, c3, rfl, -⟩ := hv
  clear h
  generalize I.ws.length = l1 at *
  generalize I.vs.length = l2 at *
  generalize I.cost.length = l3 at *
  go_enter Tryd.func3, Tryd.ntmps3
  go_wp2_with fail
  refine (HS.out _).mono ?_
  rintro e w1 ⟨rfl, hb1⟩
  have HB1 := Lib.hid (keep_box hb1)
  obtain ⟨hc1, hf1⟩ := bcell hb1
  clear hb1
  go_wp2_with fail
  refine (HLG.out _ (HV.out.keep HB1.out)).mono ?_
  rintro e w2 ⟨rfl, hb2⟩
  have HB2 := Lib.hid (keep_trans HB1.out hb2)
  clear hb2 hc1 hf1
  go_wp2_with fail
  refine (HS.out _).mono ?_
  rintro e w3 ⟨rfl, hb3⟩
  have HB3 := Lib.hid (keep_trans HB2.out hb3)
  clear hb3
  go_wp2
  go_ret
  exact ⟨rfl, HB3.out⟩

set_option maxRecDepth 200000 in
theorem decided_3s (I : Inst) (hI : WF I) (hL : isLarge I = true) (hk : I.kind = 3) (v a : Value) (w : World) (hv : InstAt w v I) {n : Nat} (hn : I.n = (n : Int)) (h3 : n < 3) : Calls Tryd.prog 3 #[v, a] w fun e w' => e = .returned (.bool true) ∧ Below w.heap.size w w' := by
  have HS := Lib.hid (fun W => stands_any W)
  have HLG := Lib.hid (fun W hv => large_true I hI hL v W hv)
  have HV := Lib.hid hv
  obtain ⟨A1, c1, A2, c2, A3, c3, rfl, hc3, -⟩ := hv.mform hI hk (by decide) hn
  have hi3 : (n : Int) < 3 := by omega
  clear hI hL hk hn
  go_enter Tryd.func3, Tryd.ntmps3
  go_wp2_with fail
  refine (HS.out _).mono ?_
  rintro e w1 ⟨rfl, hb1⟩
  have HB1 := Lib.hid (keep_box hb1)
  have HX1 := Lib.hid (heap_keep (heap_new w (.cells #[.int .i64 3, .int .i64 (n : Int), .int .i64 0, .slice A1 0 c1, .slice A2 0 c2, .slice A3 n c3] 25 (0, 0)) _ rfl) hb1)
  obtain ⟨hc1, hf1⟩ := bcell hb1
  clear hb1
  go_wp2_with fail
  refine (HLG.out _ (HV.out.keep HB1.out)).mono ?_
  rintro e w2 ⟨rfl, hb2⟩
  have HB2 := Lib.hid (keep_trans HB1.out hb2)
  have hbx2 := heap_keep HX1.out hb2
  have y0 := blk_cell hbx2 0
  have y1 := blk_cell hbx2 1
  clear hb2 hc1 hf1 hbx2
  go_wp2_with fail
  refine (HS.out _).mono ?_
  rintro e w3 ⟨rfl, hb3⟩
  have HB3 := Lib.hid (keep_trans HB2.out hb3)
  clear hb3
  go_wp2
  go_ret
  exact ⟨rfl, HB3.out⟩

/-- What the ways of an assignment's row come to. -/
def WA (I : Inst) (k m b : Nat) (x : Int) : Prop := ∃ d, PA I k b m d ∧ x = d + elt I k b
theorem ledA_done {I : Inst} (hk : I.kind = 2) {m k : Nat} (hn : I.n = ((m + 1 : Nat) : Int)) (hkm : k ≤ m) {x : List Int} (hx : Opt I x) {l : Int} (h : Led (fun _ => True) (WA I k m) (costOf I x) (m + 1) l) : l = costOf I x := by
  obtain ⟨b, hb, h2⟩ := decA_ex (hx.best2 hk hn) hkm
  exact h.done hb trivial fun y ⟨d, hd, e⟩ => by rw [e]; exact h2 d hd.1
theorem ledA_take {I : Inst} (hI : WF I) (hk : I.kind = 2) {m k b : Nat} (hn : I.n = ((m + 1 : Nat) : Int)) (hkm : k ≤ m) (hb : b ≤ m) {x : List Int} (hx : Opt I x) {l d e : Int} (he : elt I k b = e) (h : Led (fun _ => True) (WA I k m) (costOf I x) b l) (hd : PA I k b m d) : Led (fun _ => True) (WA I k m) (costOf I x) (b + 1) (leastOf l (d + e)) := by
  obtain ⟨m1, e1, -, -, -, -, -, -, -, -, ok1, -⟩ := hI.rows (by omega)
  obtain rfl : m1 = m + 1 := by omega
  have h1 := ok1 k b (by omega) (by omega)
  have h2 := hd.2
  unfold numOk at h1
  unfold inB at h2
  refine h.take ⟨d, hd, by rw [he]⟩ ?_ (by omega)
  rw [← he]
  exact decA_le (hx.best2 hk hn) hkm hb hd.1
theorem least_range {l s : Int} (hl : -1 ≤ l ∧ l ≤ 2199023255552) (hs : 0 ≤ s ∧ s ≤ 2199023255552) : -1 ≤ leastOf l s ∧ leastOf l s ≤ 2199023255552 := by
  unfold leastOf; split <;> omega

set_option maxRecDepth 200000 in
set_option maxHeartbeats 2000000 in
theorem decided_2 (I : Inst) (hI : WF I) (hL : isLarge I = true) (hk : I.kind = 2) (v : Value) (w : World) (hv : InstAt w v I) (hT : TabW w) (an k m : Nat) (hn : I.n = ((m + 1 : Nat) : Int)) (han : an < 256) (hkk : an % (m + 1) = k) :
    Calls Tryd.prog 3 #[v, .int .u8 (an : Nat)] w fun e w' => e = .returned (.bool true) ∧ Below w.heap.size w w' := by
  obtain ⟨n', hn', hn1, hn24, -, hlen, hcap, hws, hvs, hrow, hok, -⟩ := hI.rows (by omega)
  obtain rfl : n' = m + 1 := by omega
  have hlim := large_lim hL
  have hkm : k ≤ m := by have := Nat.mod_lt an (show 0 < m + 1 by omega); omega
  have HS := Lib.hid (fun W => stands_any W)
  have HLG := Lib.hid (fun W hv => large_true I hI hL v W hv)
  have HBI := Lib.hid (fun W hv hT => topbest_any I hI hlim v W hv hT)
  have HMI := Lib.hid (fun b (hb : b ≤ m) c A W (hR : RowsAt W A I.cost) => minor_any I.cost m k b c A W hR hlen hrow hkm hb (by omega))
  have HBA := Lib.hid (fun b (hb : b ≤ m) (W : World) (hT : TabW W) A c (hc : m ≤ c) (hR : RowsAt W A (minorL I.cost m k b)) => bestA hI hk hn (k := k) hb hT hc hR)
  have HTK := Lib.hid (fun b (hb : b ≤ m) x (hx : Opt I x) l d e (he : elt I k b = e) h hd => ledA_take hI hk hn hkm hb hx (l := l) (d := d) (e := e) he h hd)
  have HDN := Lib.hid (fun x (hx : Opt I x) l h => ledA_done hk hn hkm hx (l := l) h)
  have HOK := Lib.hid (fun b (hb : b ≤ m) => hok k b (by omega) (by omega))
  have HV := Lib.hid hv
  have HT := Lib.hid hT
  have HR0 := Lib.hid hrow
  have HL0 := Lib.hid hlen
  obtain ⟨A1, c1, A2, c2, A3, c3, rfl, hc3, hA⟩ := hv.mform hI hk (by decide) hn
  have HA := Lib.hid hA
  obtain ⟨N, hN⟩ : ∃ N, m + 1 = N := ⟨_, rfl⟩
  have hkN : k < N := by omega
  have hNm : (N : Int) - 1 = (m : Int) := by omega
  have hk1 : (an : Int) % (N : Int) = (k : Int) := by rw [← hkk, hN]; simp
  have hk2 : (an : Int).tmod (N : Int) = (k : Int) := by rw [Int.tmod_eq_emod_of_nonneg (by omega)]; exact hk1
  have hN0 : (0 : Int) < (N : Int) := by omega
  have han2 : (an : Int) < 256 := by omega
  have hNle : (N : Int) ≤ 24 := by omega
  rw [hN] at HV HLG HBI HR0 HL0 hc3 HDN HMI ⊢
  have HNM := Lib.hid hN
  clear hI hL hk hv hT hlim hn hn' hrow hlen hws hvs hok hcap hA hkk han hN hn1 hn24
  go_enter Tryd.func3, Tryd.ntmps3
  go_wp2_with fail
  refine (HS.out _).mono ?_
  rintro e w1 ⟨rfl, hb1⟩
  have HB1 := Lib.hid (keep_box hb1)
  obtain ⟨hc1, hf1⟩ := bcell hb1
  have HX1 := Lib.hid (heap_keep (heap_new w (.cells #[.int .i64 2, .int .i64 (N : Int), .int .i64 0, .slice A1 0 c1, .slice A2 0 c2, .slice A3 N c3] 25 (0, 0)) _ rfl) hb1)
  clear hb1
  go_wp2_with fail
  refine (HLG.out _ (HV.out.keep HB1.out)).mono ?_
  rintro e w2 ⟨rfl, hb2⟩
  have HB2 := Lib.hid (keep_trans HB1.out hb2)
  have hbx2 := heap_keep HX1.out hb2
  have HX2 := Lib.hid hbx2
  have y0 := blk_cell hbx2 0
  have y1 := blk_cell hbx2 1
  have y2 := blk_cell hbx2 2
  have y3 := blk_cell hbx2 3
  have y4 := blk_cell hbx2 4
  have y5 := blk_cell hbx2 5
  clear hb2 hc1 hf1 hbx2 HX1 HB1
  go_wp2_with fail
  refine (HBI.out _ (HV.out.keep HB2.out) (HT.out.keep HB2.out)).mono ?_
  rintro e w3 ⟨x, Ax, cx, rfl, hox, -, -, hb3⟩
  obtain ⟨C, hC⟩ : ∃ C, costOf I x = C := ⟨_, rfl⟩
  rw [hC]
  have HC := Lib.hid hC
  have HOX := Lib.hid hox
  have hbx3 := heap_keep HX2.out hb3
  have HX3 := Lib.hid hbx3
  have HB3 := Lib.hid (keep_trans HB2.out hb3)
  have hxl := heap_lt hbx3
  clear y0 y1 y2 y3 y4 y5 hC hox
  have y0 := blk_cell hbx3 0
  have y1 := blk_cell hbx3 1
  have y2 := blk_cell hbx3 2
  have y3 := blk_cell hbx3 3
  have y4 := blk_cell hbx3 4
  have y5 := blk_cell hbx3 5
  clear hb3 hbx3 HX2 HB2
  go_wp2
  go_loopg [12] N (fun gg v12 wr => ∃ (b : Nat) (l : Int), v12 = .int .i64 b ∧ b + gg = N ∧ (-1 ≤ l ∧ l ≤ 2199023255552) ∧ Hid (Led (fun _ => True) (WA I k m) (costOf I x) b l) ∧ Hid (wr.heap[w3.heap.size]? = some (.cells #[.bool true] 4 (0, 0))) ∧ Hid (wr.heap[w3.heap.size + 1]? = some (.cells #[.int .i64 l] 3 (0, 0))) ∧ Hid (Below w3.heap.size w3 wr))
  case atStart => exact ⟨0, -1, rfl, by omega, by omega, Lib.hid (Led.start _ _ _), Lib.hid (heap_old' (heap_new w3 _ _ rfl) _), Lib.hid (heap_new _ _ _ (by simp)), Lib.hid (((Below.refl _ _).alloc (Nat.le_refl _) _).alloc (by simp) _)⟩
  case round =>
    obtain ⟨b, l, rfl, hb, hl, HLD, HPB, HPL, HBr⟩ := hrel
    have hbx := heap_keep HX3.out HBr.out
    have y0 := blk_cell hbx 0
    have y1 := blk_cell hbx 1
    have y5 := blk_cell hbx 5
    have hB9 := keep_trans HB3.out HBr.out
    by_cases cb : b < N
    · have hbi : (b : Int) < (N : Int) := by omega
      have hbm : b ≤ m := by have := HNM.out; omega
      obtain ⟨ad, Br, crr, e1, hx3, hxc, hBA⟩ := (HA.out.keep HB3.out).at_ (j := k) (by rw [HL0.out]; exact hkN)
      subst e1
      rw [HR0.out k hkN] at hx3 hxc
      obtain ⟨ad2, e2, hxe3⟩ := hBA.at_ (j := b) (by rw [HR0.out k hkN]; exact cb)
      subst e2
      have hel : (I.cost.getD k []).getD b 0 = elt I k b := rfl
      rw [hel] at hxe3
      have hE0 := HOK.out b hbm
      obtain ⟨E, hE⟩ : ∃ E, elt I k b = E := ⟨_, rfl⟩
      rw [hE] at hxe3 hE0
      unfold numOk at hE0
      have HE := Lib.hid hE
      have hx := cell_keep HBr.out hx3
      have hxe := cell_keep HBr.out hxe3
      have hz3 := World.block_lt_of_cell? w3 _ hx3
      have hz4 := World.block_lt_of_cell? w3 _ hxe3
      have HMQ := Lib.hid (show ∀ W : World, W.heap = wr.heap → W.os = wr.os → W.tape = wr.tape → W.output = wr.output → _ from fun W a b' c d => HMI.out b hbm c3 _ W (HA.out.keep (below_eqhx hB9 a b' c d)))
      have HDQ := Lib.hid (show ∀ Wx w4 W : World, Below Wx.heap.size Wx w4 → Wx.heap = wr.heap → Wx.os = wr.os → Wx.tape = wr.tape → Wx.output = wr.output → W.heap = w4.heap → W.os = w4.os → W.tape = w4.tape → W.output = w4.output → ∀ (A4 : Option Addr) (c4 : Nat), m ≤ c4 → RowsAt w4 A4 (minorL I.cost m k b) → _ from fun Wx w4 W hb4 a1 a2 a3 a4 b1 b2 b3 b4 A4 c4 hc4 hR4 =>
        have hq : Below wr.heap.size wr W := below_eqhx (keep_trans (below_eqhx (Below.refl _ _) a1 a2 a3 a4) hb4) b1 b2 b3 b4
        have hq2 : Below w4.heap.size w4 W := below_eqhx (Below.refl _ _) b1 b2 b3 b4
        decide_any 2 (m : Int) 0 none none A4 0 0 0 0 m c4 E l W w3.heap.size (w3.heap.size + 1) (heap_keep HPB.out hq) (heap_keep HPL.out hq) (PA I k b m) (fun d hd => hd.2) hE0 hl (HBA.out b hbm W (HT.out.keep (keep_trans hB9 hq)) A4 c4 hc4 (hR4.keep hq2)))
      have HKC := Lib.hid (show ∀ (W w4 : World) (p : Addr) (u : Value), Below W.heap.size W w4 → W.cell? p = some u → w4.cell? p = some u from fun W w4 p u hb h => cell_keep hb h)
      have HKS := Lib.hid (show ∀ (W w5 : World), Keep (fun k => k = w3.heap.size ∨ k = w3.heap.size + 1) W w5 → ∀ (p : Addr) (u : Value), p.block < w3.heap.size → W.cell? p = some u → w5.cell? p = some u from fun W w5 hk p u hp h => hk.cell h (by omega))
      clear hBA hel hE hx3 hxe3
      go_upto_region 23 with (fail)
      have hwm : IntKind.i64.wrap (m : Int) = (m : Int) := by rw [IntKind.wrap_i64]; omega
      have hwn : IntKind.i64.wrap ((N : Int) - 1) = (m : Int) := by rw [hNm]; exact hwm
      go_region_held3 (fun w' => w'.cell? ⟨w.heap.size, 0, none⟩ = some (.int .i64 2) ∧ w'.cell? ⟨w.heap.size, 1, none⟩ = some (.int .i64 (N : Int)) ∧ w'.cell? ⟨w.heap.size, 5, none⟩ = some (.slice (some ad) N c3) ∧ w'.cell? (ad.add k) = some (.slice (some ad2) N crr) ∧ w'.cell? (ad2.add b) = some (.int .i64 E))
        (first | (go_keep; done) | (go_split_ands; refine ⟨?_, ?_, ?_, ?_, ?_⟩ <;> exact HKC.out _ _ _ _ hb4 (by assumption)) | (go_split_ands; refine ⟨?_, ?_, ?_, ?_, ?_⟩ <;> exact HKS.out _ _ hk5 _ _ (by first | exact hxl | assumption) (by assumption)))
        (first | (go_at_call 13; (with_reducible refine (HMQ.out _ ?_ ?_ ?_ ?_).mono ?_); rfl; rfl; rfl; rfl; (rintro e w4 ⟨⟨A4, c4, rfl, hc4, hR4⟩, hb4⟩)) | (go_at_call 11; (with_reducible refine (HDQ.out _ _ _ hb4 ?_ ?_ ?_ ?_ ?_ ?_ ?_ ?_ _ _ hc4 hR4).mono ?_); rfl; rfl; rfl; rfl; rfl; rfl; rfl; rfl; (rintro e w5 ⟨rfl, d, hd, hpb5, hpl5, hk5⟩)) | fail)
      have hdr := hd.2
      unfold inB at hdr
      have hsr : 0 ≤ d + E ∧ d + E ≤ 2199023255552 := by omega
      have hb5 : Below w3.heap.size w3 w5 := (below_eqhx HBr.out (V := wr.drew) rfl rfl rfl rfl).trans ((hb4.mono (show w3.heap.size ≤ wr.drew.heap.size from HBr.out.size)).trans (hk5.below (by have := hb4.size; have := HBr.out.size; simp at *; omega) (fun k hk => by omega)))
      have HX := Lib.hid (And.intro (HTK.out b hbm x HOX.out l d E HE.out HLD.out hd) (And.intro hpb5 (And.intro hpl5 (And.intro hb5 (least_range hl hsr)))))
      clear hd hpb5 hpl5 hb5 hk5 hb4 hR4 hwm hwn hdr hsr
      go_wp2
      go_roundg (gk - 1)
      case measure => omega
      case rel => exact ⟨b + 1, leastOf l (d + E), by go_num, by omega, HX.out.2.2.2.2, Lib.hid HX.out.1, Lib.hid HX.out.2.1, Lib.hid HX.out.2.2.1, Lib.hid HX.out.2.2.2.1⟩
    · have eb : N = b := by omega
      subst eb
      have hfin := HDN.out x HOX.out l HLD.out
      rw [HC.out] at hfin
      subst hfin
      have hpb := HPB.out
      have hpl := HPL.out
      have z0 := blk_cell hpb 0
      have z1 := blk_cell hpl 0
      have hpbl := heap_lt hpb
      have hpll := heap_lt hpl
      have HB9 := Lib.hid hB9
      clear hpb hpl hB9
      go_wp2
      go_ret
      exact ⟨rfl, HB9.out⟩
end Go.Proofs.YtmfgffmlnfimcaaDoor
