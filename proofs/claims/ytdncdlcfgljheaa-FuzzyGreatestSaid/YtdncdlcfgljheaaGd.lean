/- Contract of the program's edit distance. -/
import Derived.Test.YtdncdlcfgljheaaGe
namespace Go.Proofs.Ytdncdlcfgljheaa
open Go.RowKit

set_option maxRecDepth 100000 in
set_option maxHeartbeats 2000000 in
theorem dist_Edit (s t : ByteArray) (w : World) (hs : s.size ≤ 1099511627776) (ht : t.size ≤ 1099511627776) :
    Calls Try.prog 42 #[.string s, .string t] w (Ret w (.int .i64 ((Lv.lev (pts s) (pts t) : Nat) : Int))) := by
  have HV : Hid (Lv.lev (pts s) (pts t) = Lv.dist (pts s) (pts t) (pts s).length (pts t).length) := rfl
  have HP1 := hid (fun W => text_Points s W hs)
  have HP2 := hid (fun W => text_Points t W ht)
  have hn1 : (pts s).length ≤ 1099511627776 := Nat.le_trans (pts_le s) hs
  have hn2 : (pts t).length ≤ 1099511627776 := Nat.le_trans (pts_le t) ht
  generalize Lv.lev (pts s) (pts t) = F at *
  generalize hX : pts s = X at *
  generalize hY : pts t = Y at *
  clear hX hY
  generalize X.length = n at *
  generalize Y.length = m at *
  have hmk := made_int m (by omega)
  go_enter Try.func42, Try.ntmps42
  go_wp2_with fail
  with_reducible refine (HP1.out _).mono ?_
  rintro e w1 ⟨a1, c1, rfl, hr1, hb1⟩
  have HR1 := hid hr1
  have HB1 := hid hb1
  have hz1 := hb1.size
  clear hr1 hb1
  go_wp2_with fail
  with_reducible refine (HP2.out _).mono ?_
  rintro e w2 ⟨a2, c2, rfl, hr2, hb2⟩
  have HX := hid ((HR1.out.below hb2 (Nat.le_refl _)).more hb2.size)
  have HY := hid hr2
  have HB2 := hid (HB1.out.trans (hb2.mono hz1))
  have hz2 := hb2.size
  clear hr2 hb2 HR1 HB1
  go_wp2
  have hrow0 : RowD (w2.alloc (.cells (madeCells #[.int .i64 0] (m + 1)) 3)) w2.heap.size (m + 1) (fun _ => 0) := World.rowIs_made w2 (.int .i64 0) (m + 1) 3
  have HROW := hid hrow0
  have HBG := hid ((Below.refl w2.heap.size w2).alloc (Nat.le_refl _) (.cells (madeCells #[.int .i64 0] (m + 1)) 3))
  have hgz : w2.heap.size < (w2.alloc (.cells (madeCells #[.int .i64 0] (m + 1)) 3)).heap.size := by simp
  clear hrow0 hmk
  generalize w2.alloc (.cells (madeCells #[.int .i64 0] (m + 1)) 3) = w3 at *
  generalize hg : w2.heap.size = g at *
  have HG := hid hg
  clear hg
  go_loopw [25] (fun i wr => ∃ k : Nat, k ≤ m + 1 ∧ i = .int .i64 k ∧ RowD wr g (m + 1) (fun j => if j < k then j else 0) ∧ Below g w2 wr) (fun i _ => m + 1 - (intOf i).toNat)
  case atStart => exact ⟨0, by omega, rfl, HROW.out.congr (fun i _ => by simp), HBG.out⟩
  case round =>
    obtain ⟨k, hk, rfl, hrow, hbl⟩ := hrel
    have HROW := hid hrow
    have HBL := hid hbl
    clear hrow hbl
    by_cases hlt : k < m + 1
    · have hcell := HROW.out.cellAt hlt
      have hfz := HROW.out.frozen k
      have hcell' : wr.cell? ⟨g, k, none⟩ = some (.int .i64 (((if k < k then k else 0 : Nat) : Nat) : Int)) := hcell
      rw [if_neg (by omega)] at hcell'
      clear hcell
      go_wp2
      go_roundw
      case rel => exact ⟨k + 1, by omega, by go_num, HROW.out.set k k (fun j _ => by
        by_cases h : j = k
        · subst h; simp
        · rw [if_neg h]
          by_cases h2 : j < k
          · rw [if_pos (by omega), if_pos h2]
          · rw [if_neg (by omega), if_neg h2]), HBL.out.setCell (by simp) _⟩
      case measure => simp [intOf]; omega
    · obtain rfl : k = m + 1 := by omega
      have HD : Hid (RowD wr g (m + 1) (Lv.dist X Y 0)) := hid (HROW.out.congr (fun i hi => by show (if i < m + 1 then i else 0) = _; rw [if_pos hi, Lv.dist_zero]))
      clear HROW
      go_wp2
      obtain ⟨W0, rfl⟩ : ∃ W0 : World, W0 = wr := ⟨_, rfl⟩
      go_loopg [35] n (fun N i wr => ∃ k : Nat, n - k = N ∧ k ≤ n ∧ i = .int .i64 k ∧ RowD wr g (m + 1) (Lv.dist X Y k) ∧ Below g w2 wr)
      case atStart => exact ⟨0, by omega, by omega, rfl, HD.out, HBL.out⟩
      case round =>
        clear HD HBL
        obtain ⟨k, rfl, hk, rfl, hrow, hbl⟩ := hrel
        have HROW := hid hrow
        have HBL := hid hbl
        clear hrow hbl
        by_cases hlt : k < n
        · obtain ⟨aa1, cc1, e1, hc1, hm1, hx⟩ := HX.out
          obtain ⟨rfl, _, rfl⟩ := Value.slice.inj e1
          clear e1
          obtain ⟨bx, ox, rfl, hbx, hcx⟩ := hx (by omega)
          have hcx0 := hcx k hlt
          have hcxr : wr.cell? ⟨bx, ox + k, none⟩ = some (.int .i64 ((X.getD k 0 : Nat) : Int)) := (HBL.out.cell (p := ⟨bx, ox + k, none⟩) hbx).trans hcx0
          generalize hxk : X.getD k 0 = xk at *
          have HXK := hid hxk
          clear hcx hcx0 hxk
          unfold maxLen at hm1
          have hcell : wr.cell? ⟨g, 0, none⟩ = some (.int .i64 ((Lv.dist X Y k 0 : Nat) : Int)) := HROW.out.cellAt (by omega)
          rw [Lv.dist_left] at hcell
          have hfz := HROW.out.frozen 0
          have HMIX : Hid (RowD (wr.setCell ⟨g, 0, none⟩ (.int .i64 ((k : Int) + 1))) g (m + 1) (Lv.mix X Y k 0)) := by
            have h := HROW.out.set (f' := Lv.mix X Y k 0) 0 (k + 1) (fun j hj => by rw [Lv.mix_start])
            rw [show (((k + 1 : Nat) : Int)) = (k : Int) + 1 from by omega] at h
            exact hid h
          have HB3 := hid (HBL.out.setCell (p := ⟨g, 0, none⟩) (Nat.le_refl _) (.int .i64 ((k : Int) + 1)))
          go_wp2
          generalize wr.setCell ⟨g, 0, none⟩ (.int .i64 ((k : Int) + 1)) = wk at *
          clear hcell hfz hcxr
          go_loopw [49, 11] (fun j l wr => ∃ q : Nat, q ≤ m ∧ j = .int .i64 q ∧ l = .int .i64 ((Lv.dist X Y k q : Nat) : Int) ∧ RowD wr g (m + 1) (Lv.mix X Y k q) ∧ Below g w2 wr) (fun j _ _ => m - (intOf j).toNat)
          case atStart => exact ⟨0, by omega, rfl, by rw [Lv.dist_left], HMIX.out, HB3.out⟩
          case round =>
            clear HROW HBL HMIX HB3
            obtain ⟨q, hq, rfl, rfl, hrow, hbl⟩ := hrel
            have HROW := hid hrow
            have HBL := hid hbl
            clear hrow hbl
            by_cases hlq : q < m
            · obtain ⟨aa2, cc2, e2, hc2, hm2, hy⟩ := HY.out
              obtain ⟨rfl, _, rfl⟩ := Value.slice.inj e2
              clear e2
              obtain ⟨by', oy, rfl, hby, hcy⟩ := hy (by omega)
              have hcy0 := hcy q hlq
              have HCY : Hid (w2.cell? ⟨by', oy + q, none⟩ = some (.int .i64 ((Y.getD q 0 : Nat) : Int))) := hid hcy0
              clear hcy hcy0
              unfold maxLen at hm2
              have hcyr := (HBL.out.cell (p := ⟨by', oy + q, none⟩) hby).trans HCY.out
              have hc0 : wr.cell? ⟨g, q, none⟩ = some (.int .i64 ((Lv.mix X Y k q q : Nat) : Int)) := HROW.out.cellAt (by omega)
              have hc1' : wr.cell? ⟨g, q + 1, none⟩ = some (.int .i64 ((Lv.mix X Y k q (q + 1) : Nat) : Int)) := HROW.out.cellAt (by omega)
              have hfz := HROW.out.frozen (q + 1)
              have hd := Lv.dist_succ X Y k q
              rw [HXK.out] at hd
              have hA := Lv.dist_le X Y k q
              have hB := Lv.dist_le X Y k (q + 1)
              have hC := Lv.dist_le X Y (k + 1) q
              have hm0 : Lv.mix X Y k q q = Lv.dist X Y (k + 1) q := by unfold Lv.mix; rw [if_pos (Nat.le_refl _)]
              have hm1' : Lv.mix X Y k q (q + 1) = Lv.dist X Y k (q + 1) := by unfold Lv.mix; rw [if_neg (by omega)]
              rw [hm0] at hc0
              rw [hm1'] at hc1'
              have HD := hid hd
              have HM := hid (fun j => Lv.mix_step X Y k q j)
              clear hm0 hm1' hd
              generalize hZ : Lv.dist X Y (k + 1) (q + 1) = Z at *
              have HZ := hid hZ
              clear hZ
              generalize Lv.dist X Y k q = A at *
              generalize hBv : Lv.dist X Y k (q + 1) = Bv at *
              have HBv := hid hBv
              clear hBv
              generalize Lv.dist X Y (k + 1) q = C at *
              generalize Y.getD q 0 = yq at *
              by_cases hxy : xk = yq
              · have hne : ((xk : Int) != (yq : Int)) = false := by simp [hxy]
                have HD2 := hid (show Z = min A (min (Bv + 1) (C + 1)) by rw [HD.out, if_pos hxy]; rfl)
                clear hxy
                go_wp2
                rw [min3 (A := A) rfl HD2.out]
                go_roundw
                case rel => exact ⟨q + 1, by omega, by go_num, by rw [HBv.out], (HROW.out.set (f' := Lv.mix X Y k (q + 1)) (q + 1) Z (fun j hj => by rw [HM.out j])), HBL.out.setCell (Nat.le_refl _) _⟩
                case measure => simp [intOf]; omega
              · have hne : ((xk : Int) != (yq : Int)) = true := by simp; omega
                have HD2 := hid (show Z = min (A + 1) (min (Bv + 1) (C + 1)) by rw [HD.out, if_neg hxy])
                clear hxy
                go_wp2
                rw [min3b HD2.out]
                go_roundw
                case rel => exact ⟨q + 1, by omega, by go_num, by rw [HBv.out], (HROW.out.set (f' := Lv.mix X Y k (q + 1)) (q + 1) Z (fun j hj => by rw [HM.out j])), HBL.out.setCell (Nat.le_refl _) _⟩
                case measure => simp [intOf]; omega
            · obtain rfl : q = m := by omega
              have HD := hid (HROW.out.congr (fun i hi => Lv.mix_end X Y k i q (by omega)))
              clear HROW
              go_wp2
              go_roundg (n - (k + 1))
              case rel => exact ⟨k + 1, rfl, by omega, by go_num, HD.out, HBL.out⟩
              case measure => omega
        · obtain rfl : k = n := by omega
          have hcell : wr.cell? ⟨g, m, none⟩ = some (.int .i64 ((Lv.dist X Y k m : Nat) : Int)) := HROW.out.cellAt (by omega)
          generalize hF : Lv.dist X Y k m = D at *
          have HF := hid hF
          clear hF
          go_wp2
          go_ret
          exact ⟨ret_int (by rw [HV.out]), HB2.out.trans (HBL.out.mono (by omega))⟩

end Go.Proofs.Ytdncdlcfgljheaa
