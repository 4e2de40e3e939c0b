/- The walk of joined. -/
import Derived.Test.YtmfgffmlnfimcaaDoorDp
namespace Go.Proofs.YtmfgffmlnfimcaaDoor
open Go Go.RowKit Go.Shelf Go.Sort Go.Deep

def othRow (f : Nat → Int) (k b c : Nat) : List Int := (oth k b c).map f
theorem othRow_take (f : Nat → Int) {k b c : Nat} (h : c ≠ k) (h2 : c ≠ b) : othRow f k b (c + 1) = othRow f k b c ++ [f c] := by
  unfold othRow; rw [oth_take h h2, List.map_append]; rfl
theorem othRow_skip (f : Nat → Int) {k b c : Nat} (h : c = k ∨ c = b) : othRow f k b (c + 1) = othRow f k b c := by
  unfold othRow; rw [oth_skip h]
theorem othRow_le (f : Nat → Int) (k b c : Nat) : (othRow f k b c).length ≤ c := by
  unfold othRow oth; rw [List.length_map]; exact Nat.le_trans (List.length_filter_le _ _) (by simp)
theorem oth_at {k b r : Nat} (h1 : r ≠ k) (h2 : r ≠ b) : ∀ d, (oth k b (r + 1 + d)).getD (oth k b r).length 0 = r
  | 0 => by
    rw [show r + 1 + 0 = r + 1 from rfl, oth_take h1 h2]; simp [List.getD_eq_getElem?_getD]
  | d + 1 => by
    have ih := oth_at h1 h2 d
    have hl : (oth k b r).length < (oth k b (r + 1 + d)).length := by
      have h3 : ∀ d, (oth k b r).length + 1 ≤ (oth k b (r + 1 + d)).length := fun d => by
        induction d with
        | zero => rw [show r + 1 + 0 = r + 1 from rfl, oth_take h1 h2, List.length_append]; exact Nat.le_refl _
        | succ d ih2 =>
          by_cases h : r + 1 + d = k ∨ r + 1 + d = b
          · rw [show r + 1 + (d + 1) = r + 1 + d + 1 from rfl, oth_skip h]; exact ih2
          · rw [show r + 1 + (d + 1) = r + 1 + d + 1 from rfl, oth_take (by omega) (by omega), List.length_append]; omega
      exact h3 d
    by_cases h : r + 1 + d = k ∨ r + 1 + d = b
    · rw [show r + 1 + (d + 1) = r + 1 + d + 1 from rfl, oth_skip h]; exact ih
    · rw [show r + 1 + (d + 1) = r + 1 + d + 1 from rfl, oth_take (by omega) (by omega)]
      rw [List.getD_eq_getElem?_getD, List.getElem?_append_left hl, ← List.getD_eq_getElem?_getD]; exact ih
theorem map_range_getD (l : List Nat) (f : Nat → Int) : (List.range l.length).map (fun c => f (l.getD c 0)) = l.map f := by
  refine List.ext_getElem (by simp) fun i h1 h2 => ?_
  simp only [List.length_map, List.length_range] at h1
  simp [List.getD_eq_getElem?_getD, h1]

def joinedL (xss : List (List Int)) (k b p : Nat) : List (List Int) := (List.range (p + 2)).map fun a => (List.range (p + 2)).map fun c => jC (fun r c => (xss.getD r []).getD c 0) k b p a c
theorem joinedL_len (xss : List (List Int)) (k b p : Nat) : (joinedL xss k b p).length = p + 2 := by unfold joinedL; simp
theorem joinedL_get (xss : List (List Int)) {k b p a : Nat} (ha : a < p + 2) : (joinedL xss k b p).getD a [] = (List.range (p + 2)).map fun c => jC (fun r c => (xss.getD r []).getD c 0) k b p a c := getD_rows _ ha
theorem joinedL_row (xss : List (List Int)) {k b p r : Nat} (hkb : k ≠ b) (hk : k < p + 3) (hb : b < p + 3) (hr : r < p + 3) (h1 : r ≠ k) (h2 : r ≠ b) (hm : (oth k b r).length ≤ p) :
    (joinedL xss k b p).getD (oth k b r).length [] = othRow (fun c => (xss.getD r []).getD c 0) k b (p + 3) ++ [(xss.getD r []).getD k 0] := by
  have hat : (oth k b (p + 3)).getD (oth k b r).length 0 = r := by
    have := oth_at h1 h2 (p + 3 - (r + 1))
    rwa [show r + 1 + (p + 3 - (r + 1)) = p + 3 by omega] at this
  rw [joinedL_get xss (by omega), List.range_succ, List.map_append]
  unfold othRow
  rw [← map_range_getD (oth k b (p + 3)), oth_len2 hkb hk hb]
  congr 1
  · refine List.map_congr_left fun c hc => ?_
    have := List.mem_range.1 hc
    unfold jC
    rw [if_neg (by omega), if_neg (by omega), hat]
  · simp only [List.map_cons, List.map_nil]
    unfold jC
    rw [if_neg (by omega), if_pos rfl, hat]
theorem joinedL_last (xss : List (List Int)) {k b p : Nat} (hkb : k ≠ b) (hk : k < p + 3) (hb : b < p + 3) :
    (joinedL xss k b p).getD (p + 1) [] = othRow (fun c => (xss.getD b []).getD c 0) k b (p + 3) ++ [0] := by
  rw [joinedL_get xss (by omega), List.range_succ, List.map_append]
  unfold othRow
  rw [← map_range_getD (oth k b (p + 3)), oth_len2 hkb hk hb]
  congr 1
  · refine List.map_congr_left fun c hc => ?_
    have := List.mem_range.1 hc
    unfold jC
    rw [if_pos rfl, if_neg (by omega)]
  · simp only [List.map_cons, List.map_nil]
    unfold jC
    rw [if_pos rfl, if_pos rfl]
theorem oth_len_lt {k b r N : Nat} (hkb : k ≠ b) (hk : k < N) (hb : b < N) (hr : r < N) (h1 : r ≠ k) (h2 : r ≠ b) : (oth k b r).length + 2 < N := by
  have a := oth_len hkb r
  have b1 := oth_len hkb N
  rw [if_pos hk, if_pos hb] at b1
  have h3 : (oth k b r).length < (oth k b N).length := by
    have h4 : ∀ d, (oth k b r).length + 1 ≤ (oth k b (r + 1 + d)).length := fun d => by
      induction d with
      | zero => rw [show r + 1 + 0 = r + 1 from rfl, oth_take h1 h2, List.length_append]; exact Nat.le_refl _
      | succ d ih2 =>
        by_cases h : r + 1 + d = k ∨ r + 1 + d = b
        · rw [show r + 1 + (d + 1) = r + 1 + d + 1 from rfl, oth_skip h]; exact ih2
        · rw [show r + 1 + (d + 1) = r + 1 + d + 1 from rfl, oth_take (by omega) (by omega), List.length_append]; omega
    have := h4 (N - (r + 1))
    rw [show r + 1 + (N - (r + 1)) = N by omega] at this
    omega
  omega

set_option maxRecDepth 200000 in
set_option maxHeartbeats 2000000 in
/-- joined: a tour's costs, two cities in one. -/
theorem joined_any (xss : List (List Int)) (p k b cc : Nat) (A : Option Addr) (w : World) (hR : RowsAt w A xss) (hl : xss.length = p + 3) (hr : ∀ r, r < p + 3 → (xss.getD r []).length = p + 3) (hkb : k ≠ b) (hk : k < p + 3) (hb : b < p + 3) (hp : p ≤ 6) :
    Calls Tryd.prog 14 #[.slice A (p + 3) cc, .int .i64 (k : Int), .int .i64 (b : Int)] w fun e w' => (∃ A' c', e = .returned (.slice A' (p + 2) c') ∧ p + 2 ≤ c' ∧ RowsAt w' A' (joinedL xss k b p)) ∧ Below w.heap.size w w' := by
  have HR0 := Lib.hid hR
  have HL0 := Lib.hid hl
  have HR1 := Lib.hid hr
  have HKB := Lib.hid hkb
  obtain ⟨N, hN⟩ : ∃ N, p + 3 = N := ⟨_, rfl⟩
  have HN := Lib.hid hN
  rw [hN] at HL0 HR1 hk hb ⊢
  clear hR hl hr hkb hN
  have hn9 : N ≤ 9 := by have := HN.out; omega
  go_enter Tryd.func14, Tryd.ntmps14
  go_wp2
  go_loopg [7, 8] N (fun gg v7 v8 wr => ∃ (r m : Nat) (rr cp : Nat → Nat), v8 = .int .i64 r ∧ r + gg = N ∧ Hid (m = (oth k b r).length) ∧ Hid (RowsO wr w.heap.size v7 (joinedL xss k b p) m rr cp) ∧ Hid (Below w.heap.size w wr))
  case atStart => exact ⟨0, 0, _, _, rfl, by omega, Lib.hid rfl, Lib.hid (RowsO.nil _ _ _), Lib.hid (Below.refl _ _)⟩
  case round =>
    obtain ⟨r, m, rr, cp, rfl, hr, HM, HR, HB⟩ := hrel
    have hBs := HB.out.size
    by_cases cr : r < N
    · have hri : (r : Int) < (N : Int) := by omega
      by_cases ck : r = k
      · have he : ((r : Int) == (k : Int)) = true := by simp [ck]
        have HCK := Lib.hid ck
        clear ck
        go_wp2
        go_roundg (gk - 1)
        case measure => omega
        case rel => exact ⟨r + 1, m, rr, cp, by go_num, by omega, Lib.hid (by rw [oth_skip (.inl HCK.out)]; exact HM.out), HR, HB⟩
      · by_cases cb : r = b
        · have he : ((r : Int) == (k : Int)) = false := by simp; omega
          have he2 : ((r : Int) == (b : Int)) = true := by simp [cb]
          have HCK := Lib.hid cb
          clear cb ck
          go_wp2
          go_roundg (gk - 1)
          case measure => omega
          case rel => exact ⟨r + 1, m, rr, cp, by go_num, by omega, Lib.hid (by rw [oth_skip (.inr HCK.out)]; exact HM.out), HR, HB⟩
        · have he : ((r : Int) == (k : Int)) = false := by simp; omega
          have he2 : ((r : Int) == (b : Int)) = false := by simp; omega
          have HCK := Lib.hid (And.intro ck cb)
          clear ck cb
          go_wp2
          obtain ⟨gL, rfl⟩ : ∃ g : Nat, g = gk := ⟨_, rfl⟩
          obtain ⟨wo, rfl⟩ : ∃ W : World, W = wr := ⟨_, rfl⟩
          go_loopg [9, 10] N (fun gg v9 v10 wq => ∃ c : Nat, v10 = .int .i64 c ∧ c + gg = N ∧ Hid (OwnI wq wo.heap.size v9 (othRow (fun c => (xss.getD r []).getD c 0) k b c)) ∧ Hid (Below wo.heap.size wo wq))
          case atStart => exact ⟨0, rfl, by omega, Lib.hid (OwnI.nil _ _), Lib.hid (Below.refl _ _)⟩
          case round =>
            obtain ⟨c, rfl, hc, HO, HBq⟩ := hrel
            have hBq := HBq.out.size
            have hB2 := keep_trans HB.out HBq.out
            obtain ⟨ad, Br, crr, e1, hx, hxc, hBA⟩ := (HR0.out.keep hB2).at_ (j := r) (by rw [HL0.out]; exact cr)
            subst e1
            rw [HR1.out r cr] at hx hxc
            have hlen : (othRow (fun c => (xss.getD r []).getD c 0) k b c).length ≤ 1000000 := by have := othRow_le (fun c => (xss.getD r []).getD c 0) k b c; omega
            have HB2 := Lib.hid hB2
            clear hB2
            by_cases cq : c < N
            · have hci : (c : Int) < (N : Int) := by omega
              by_cases q1 : c = k
              · have f1 : ((c : Int) != (k : Int)) = false := by simp [q1]
                have HCK := Lib.hid q1
                clear hBA q1
                go_wp2
                go_roundg (gk - 1)
                case measure => omega
                case rel => exact ⟨c + 1, by go_num, by omega, Lib.hid (by rw [othRow_skip _ (.inl HCK.out)]; exact HO.out), HBq⟩
              · by_cases q2 : c = b
                · have f1 : ((c : Int) != (k : Int)) = true := by simp; omega
                  have f2 : ((c : Int) != (b : Int)) = false := by simp [q2]
                  have HCK := Lib.hid q2
                  clear hBA q1 q2
                  go_wp2
                  go_roundg (gk - 1)
                  case measure => omega
                  case rel => exact ⟨c + 1, by go_num, by omega, Lib.hid (by rw [othRow_skip _ (.inr HCK.out)]; exact HO.out), HBq⟩
                · have f1 : ((c : Int) != (k : Int)) = true := by simp; omega
                  have f2 : ((c : Int) != (b : Int)) = true := by simp; omega
                  have HQ := Lib.hid (And.intro q1 q2)
                  obtain ⟨ad2, e2, hxe⟩ := hBA.at_ (j := c) (by rw [HR1.out r cr]; exact cq)
                  subst e2
                  obtain ⟨E, hE⟩ : ∃ E, (xss.getD r []).getD c 0 = E := ⟨_, rfl⟩
                  rw [hE] at hxe
                  have HE := Lib.hid hE
                  clear hBA hE q1 q2
                  go_wp2_with (at_builtin; refine append_one_f rfl _ _ rfl wo.heap.size u9 _ rfl wr HO.out E rfl hlen hBq ?_)
                  intro v' w' h1 h2 h3 h4
                  have HX := Lib.hid (And.intro h1 h2)
                  clear h1 h2 h3 h4
                  go_wp2
                  go_roundg (gk - 1)
                  case measure => omega
                  case rel => exact ⟨c + 1, by go_num, by omega, Lib.hid (by rw [othRow_take _ HQ.out.1 HQ.out.2, HE.out]; exact HX.out.1), Lib.hid (HBq.out.trans HX.out.2)⟩
            · have ec : N = c := by omega
              subst ec
              obtain ⟨ad2, e2, hxe⟩ := hBA.at_ (j := k) (by rw [HR1.out r cr]; exact hk)
              subst e2
              obtain ⟨E, hE⟩ : ∃ E, (xss.getD r []).getD k 0 = E := ⟨_, rfl⟩
              rw [hE] at hxe
              have HE := Lib.hid hE
              have hml : m < p + 1 := by
                have := oth_len_lt HKB.out hk hb cr HCK.out.1 HCK.out.2
                have := HM.out
                have := HN.out
                omega
              have HROW := Lib.hid (show (joinedL xss k b p).getD m [] = othRow (fun c => (xss.getD r []).getD c 0) k b N ++ [E] by
                have := joinedL_row xss (p := p) HKB.out (by rw [HN.out]; exact hk) (by rw [HN.out]; exact hb) (by rw [HN.out]; exact cr) HCK.out.1 HCK.out.2 (by rw [← HM.out]; omega)
                rw [HN.out, ← HM.out, hE] at this; exact this)
              clear hBA hE
              go_wp2_with (at_builtin; refine append_one_f rfl _ _ rfl wo.heap.size u9 _ rfl wr HO.out E rfl hlen hBq ?_)
              intro v' w' h1 h2 h3 h4
              have hll : (othRow (fun c => (xss.getD r []).getD c 0) k b N ++ [E]).length = p + 2 := by
                unfold othRow
                rw [List.length_append, List.length_map, ← HN.out, oth_len2 HKB.out (by rw [HN.out]; exact hk) (by rw [HN.out]; exact hb)]; rfl
              replace h1 : OwnI w' wo.heap.size v' (othRow (fun c => (xss.getD r []).getD c 0) k b N ++ [E]) := h1
              obtain ⟨g, c', e, hg, hc', hA⟩ := h1.arr (fun e => by rw [e] at hll; simp at hll)
              subst e
              rw [hll] at hc' hA ⊢
              have hb5 := HBq.out.trans h2
              have HQ := Lib.hid (And.intro hg (And.intro hc' (And.intro hA hb5)))
              have HLL := Lib.hid hll
              have hB4 : w.heap.size ≤ w'.heap.size := by have := hb5.size; omega
              have hk24 : (m + 1) * 24 ≤ 140737488355328 := by have := HN.out; omega
              have hk25 : m ≤ 17592186044000 := by have := HN.out; omega
              clear h1 h2 h3 h4 hg hA hb5 hll
              go_wp2_with (at_builtin; refine append_row rfl _ _ rfl w.heap.size u7 m _ rfl w' (own_keep HR.out.own HQ.out.2.2.2) (.slice (some ⟨g, 0, none⟩) (p + 2) c') rfl rfl hk25 hk24 hB4 ?_)
              intro v5 w5 h1 h2 h3 h4
              have HX := Lib.hid (And.intro h1 (And.intro h2 (And.intro h3 h4)))
              clear h1 h2 h3 h4
              go_wp2
              go_roundg (gL - 1)
              case measure => omega
              case rel =>
                obtain ⟨h1, h2, h3, h4⟩ := HX.out
                obtain ⟨hg, hc2, hA, hb4⟩ := HQ.out
                have hlen : ((joinedL xss k b p).getD m []).length = p + 2 := by rw [HROW.out]; exact HLL.out
                refine ⟨r + 1, m + 1, upd rr m g, upd cp m c', by go_num, by omega, Lib.hid ?_, Lib.hid ?_, Lib.hid ((HB.out.trans (hb4.mono HB.out.size)).trans h2)⟩
                · rw [oth_take HCK.out.1 HCK.out.2, List.length_append, ← HM.out]; rfl
                · exact RowsO.more HR.out HB.out.size hb4 hg (by rw [hlen]; exact hc2) (by rw [hlen, HROW.out]; exact hA) (by rw [hlen]; exact h1) h3 h4
    · have er : N = r := by omega
      subst er
      have hm : m = p + 1 := by have := HM.out; rw [this, ← HN.out]; exact oth_len2 HKB.out (by rw [HN.out]; exact hk) (by rw [HN.out]; exact hb)
      have HM1 := Lib.hid hm
      clear hr cr hm
      go_wp2
      obtain ⟨wo, rfl⟩ : ∃ W : World, W = wr := ⟨_, rfl⟩
      go_loopg [11, 12] N (fun gg v11 v12 wq => ∃ c : Nat, v12 = .int .i64 c ∧ c + gg = N ∧ Hid (OwnI wq wo.heap.size v11 (othRow (fun c => (xss.getD b []).getD c 0) k b c)) ∧ Hid (Below wo.heap.size wo wq))
      case atStart => exact ⟨0, rfl, by omega, Lib.hid (OwnI.nil _ _), Lib.hid (Below.refl _ _)⟩
      case round =>
        obtain ⟨c, rfl, hc, HO, HBq⟩ := hrel
        have hBq := HBq.out.size
        have hB2 := keep_trans HB.out HBq.out
        obtain ⟨ad, Br, crr, e1, hx, hxc, hBA⟩ := (HR0.out.keep hB2).at_ (j := b) (by rw [HL0.out]; exact hb)
        subst e1
        rw [HR1.out b hb] at hx hxc
        have hlen : (othRow (fun c => (xss.getD b []).getD c 0) k b c).length ≤ 1000000 := by have := othRow_le (fun c => (xss.getD b []).getD c 0) k b c; omega
        have HB2 := Lib.hid hB2
        clear hB2
        by_cases cq : c < N
        · have hci : (c : Int) < (N : Int) := by omega
          by_cases q1 : c = k
          · have f1 : ((c : Int) != (k : Int)) = false := by simp [q1]
            have HCK := Lib.hid q1
            clear hBA q1
            go_wp2
            go_roundg (gk - 1)
            case measure => omega
            case rel => exact ⟨c + 1, by go_num, by omega, Lib.hid (by rw [othRow_skip _ (.inl HCK.out)]; exact HO.out), HBq⟩
          · by_cases q2 : c = b
            · have f1 : ((c : Int) != (k : Int)) = true := by simp; omega
              have f2 : ((c : Int) != (b : Int)) = false := by simp [q2]
              have HCK := Lib.hid q2
              clear hBA q1 q2
              go_wp2
              go_roundg (gk - 1)
              case measure => omega
              case rel => exact ⟨c + 1, by go_num, by omega, Lib.hid (by rw [othRow_skip _ (.inr HCK.out)]; exact HO.out), HBq⟩
            · have f1 : ((c : Int) != (k : Int)) = true := by simp; omega
              have f2 : ((c : Int) != (b : Int)) = true := by simp; omega
              have HQ := Lib.hid (And.intro q1 q2)
              obtain ⟨ad2, e2, hxe⟩ := hBA.at_ (j := c) (by rw [HR1.out b hb]; exact cq)
              subst e2
              obtain ⟨E, hE⟩ : ∃ E, (xss.getD b []).getD c 0 = E := ⟨_, rfl⟩
              rw [hE] at hxe
              have HE := Lib.hid hE
              clear hBA hE q1 q2
              go_wp2_with (at_builtin; refine append_one_f rfl _ _ rfl wo.heap.size u11 _ rfl wr HO.out E rfl hlen hBq ?_)
              intro v' w' h1 h2 h3 h4
              have HX := Lib.hid (And.intro h1 h2)
              clear h1 h2 h3 h4
              go_wp2
              go_roundg (gk - 1)
              case measure => omega
              case rel => exact ⟨c + 1, by go_num, by omega, Lib.hid (by rw [othRow_take _ HQ.out.1 HQ.out.2, HE.out]; exact HX.out.1), Lib.hid (HBq.out.trans HX.out.2)⟩
        · have ec : N = c := by omega
          subst ec
          have HROW := Lib.hid (show (joinedL xss k b p).getD m [] = othRow (fun c => (xss.getD b []).getD c 0) k b N ++ [0] by
            have := joinedL_last xss (p := p) HKB.out (by rw [HN.out]; exact hk) (by rw [HN.out]; exact hb)
            rw [HN.out] at this; rw [HM1.out]; exact this)
          clear hBA
          go_wp2_with (at_builtin; refine append_one_f rfl _ _ rfl wo.heap.size u11 _ rfl wr HO.out 0 rfl hlen hBq ?_)
          intro v' w' h1 h2 h3 h4
          have hll : (othRow (fun c => (xss.getD b []).getD c 0) k b N ++ [0]).length = p + 2 := by
            unfold othRow
            rw [List.length_append, List.length_map, ← HN.out, oth_len2 HKB.out (by rw [HN.out]; exact hk) (by rw [HN.out]; exact hb)]; rfl
          replace h1 : OwnI w' wo.heap.size v' (othRow (fun c => (xss.getD b []).getD c 0) k b N ++ [0]) := h1
          obtain ⟨g, c', e, hg, hc', hA⟩ := h1.arr (fun e => by rw [e] at hll; simp at hll)
          subst e
          rw [hll] at hc' hA ⊢
          have hb5 := HBq.out.trans h2
          have HQ := Lib.hid (And.intro hg (And.intro hc' (And.intro hA hb5)))
          have HLL := Lib.hid hll
          have hB4 : w.heap.size ≤ w'.heap.size := by have := hb5.size; omega
          have hk24 : (m + 1) * 24 ≤ 140737488355328 := by have := HN.out; have := HM1.out; omega
          have hk25 : m ≤ 17592186044000 := by have := HN.out; have := HM1.out; omega
          clear h1 h2 h3 h4 hg hA hb5 hll
          go_wp2_with (at_builtin; refine append_row rfl _ _ rfl w.heap.size u7 m _ rfl w' (own_keep HR.out.own HQ.out.2.2.2) (.slice (some ⟨g, 0, none⟩) (p + 2) c') rfl rfl hk25 hk24 hB4 ?_)
          intro v5 w5 h1 h2 h3 h4
          have HX := Lib.hid (And.intro h1 (And.intro h2 (And.intro h3 h4)))
          clear h1 h2 h3 h4
          go_wp2
          go_ret
          obtain ⟨h1, h2, h3, h4⟩ := HX.out
          obtain ⟨hg, hc2, hA, hb4⟩ := HQ.out
          have hlen : ((joinedL xss k b p).getD m []).length = p + 2 := by rw [HROW.out]; exact HLL.out
          have hR9 := RowsO.more HR.out HB.out.size hb4 hg (by rw [hlen]; exact hc2) (by rw [hlen, HROW.out]; exact hA) (by rw [hlen]; exact h1) h3 h4
          obtain ⟨A', c9, e9, hc9, hRA⟩ := hR9.rowsAt (by rw [joinedL_len, HM1.out])
          subst e9
          rw [HM1.out] at hc9 ⊢
          exact ⟨⟨A', c9, rfl, hc9, hRA⟩, (HB.out.trans (hb4.mono HB.out.size)).trans h2⟩
end Go.Proofs.YtmfgffmlnfimcaaDoor
