/- The walk of TextTwice. -/
import Derived.Test.YtdncdlcfgljheaaDoorTv
import Derived.Test.YtdncdlcfgljheaaDoorTl
import Derived.Test.YtdncdlcfgljheaaDoorPp
import Derived.Test.YtdncdlcfgljheaaDoorTw
namespace Go.Proofs.YtdncdlcfgljheaaDoor
open Go.RowKit

theorem trimS_list (s : ByteArray) : (trimS s).data.toList = Lib.trimB s.data.toList 32 := by simp [trimS]
theorem trimS_twice (s : ByteArray) : trimS (trimS s) = trimS s := by
  apply ba_ext
  rw [trimS_list (trimS s), trimS_list, trimB_twice]
theorem trimS_wide (x : ByteArray) : trimS ((⟨#[32]⟩ : ByteArray) ++ x ++ ⟨#[32, 32]⟩) = trimS x := by
  apply ba_ext
  rw [trimS_list, trimS_list]
  have e : ((⟨#[32]⟩ : ByteArray) ++ x ++ ⟨#[32, 32]⟩).data.toList = 32 :: (x.data.toList ++ [32, 32]) := by simp [ByteArray.data_append]
  rw [e, trimB_wide]
theorem trimS_le (x : ByteArray) : (trimS x).size ≤ x.size := by
  have h : ∀ s : ByteArray, s.size = s.data.toList.length := fun s => by rw [Array.length_toList]; rfl
  rw [h, h, trimS_list]
  unfold Lib.trimB Lib.trimLeftB Lib.trimRightB
  refine Nat.le_trans (List.dropWhile_sublist _).length_le ?_
  rw [List.length_reverse]
  refine Nat.le_trans (List.dropWhile_sublist _).length_le ?_
  rw [List.length_reverse]
  exact Nat.le_refl _

theorem allB_len : ∀ xs : List ByteArray, xs.length ≤ (allB xs).size
  | [] => Nat.zero_le _
  | x :: xs => by
    have ih := allB_len xs
    have h : ∀ l, (allB l).size = (l.flatMap fun t => t.data.toList ++ [44, 32]).length := fun l => by show (List.toArray _).size = _; simp
    rw [h] at ih ⊢
    rw [List.flatMap_cons, List.length_append, List.length_append, List.length_cons]
    simp at ih ⊢
    omega

theorem bytes_backG (g : Nat → Nat) (hg : ∀ c, c < 256 → g c < 256) {w0 w : World} {s : ByteArray} (h : FoldAt w0 s.size (fun j => g (byteN s j)) w) (cap : Nat) :
    (convert 22 9 (.slice (some ⟨w0.heap.size, 0, none⟩) s.size cap)).run Tryd.prog w = .ok (.string (mapB g s)) w := by
  have hl : (s.data.toList.map fun c => UInt8.ofNat (g c.toNat)).length = s.size := by rw [List.length_map, Array.length_toList]; rfl
  have := run_convert_bytes_back (P := Tryd.prog) w 22 9 5 ⟨w0.heap.size, 0, none⟩ cap (s.data.toList.map fun c => UInt8.ofNat (g c.toNat)) Tryd.underlying22 Tryd.underlying5 Tryd.underlying9 (fun j hj => by
    rw [hl] at hj
    have h1 := h.cell j hj
    have hj' : j < s.data.toList.length := by simpa using hj
    have hlt := hg _ (byteN_lt s j)
    have e : (s.data.toList.map fun c => UInt8.ofNat (g c.toNat))[j].toNat = g (byteN s j) := by
      simp only [List.getElem_map, UInt8.toNat_ofNat']
      rw [show (s.data.toList[j]).toNat = byteN s j from by simp [byteN, List.getD, List.getElem?_eq_getElem hj']]
      omega
    rw [e, show (⟨w0.heap.size, 0, none⟩ : Addr).add j = ⟨w0.heap.size, j, none⟩ from by unfold Addr.add; split <;> simp_all]
    exact h1)
  rw [hl] at this
  exact this

set_option maxRecDepth 100000 in
set_option maxHeartbeats 4000000 in
theorem law_textTwice (sa : Option Addr) (sn sc : Nat) (raw : ByteArray) (w : World) (hs : RdU w w.heap.size sa sn sc) (hT : Tabs w) :
    Calls Tryd.prog 3 #[.slice sa sn sc, .string raw] w (Ret w (.bool true)) := by
  have HS := hid hs
  have HT := hid hT
  clear hs hT
  go_enter Tryd.func3, Tryd.ntmps3
  generalize hLB : Code.loop _ = LB
  go_wp2_with fail
  with_reducible refine (law02_sane _ HT.out).mono ?_
  rintro e w1 ⟨rfl, hb1⟩
  have HB1 := hid hb1
  have HS1 := hid (rdU_later' HS.out hb1)
  have hz1' := hb1.size
  clear hb1
  by_cases hlen : 300 < raw.size
  · go_wp2_with fail
    go_ret
    exact ⟨rfl, HB1.out⟩
  · go_wp2_with fail
    with_reducible refine (mill_New sa sn sc _ HS1.out).mono ?_
    rintro e w2 ⟨rfl, hd2, hb2⟩
    have HD2 := hid hd2
    have hg2 := hd2.lt
    have HB2 := hid (HB1.out.trans (hb2.mono HB1.out.size))
    clear hd2 hb2 HS1
    generalize hgg : w1.heap.size = g at *
    clear hgg
    go_wp2_with fail
    with_reducible refine (dice_Pick g 9 _ HD2.out (by omega) (by omega)).mono ?_
    rintro e w3 ⟨m3, rfl, hm3, hd3, hr3, hs3⟩
    have HD3 := hid hd3
    have HR3 := hid hr3
    have HS3 := hid hs3
    clear hd3 hr3 hs3 HD2
    go_wp2_with fail
    with_reducible refine (dice_Field g m3 (by omega) _ HD3.out).mono ?_
    rintro e w4 ⟨x4, rfl, hx4, -, hd4, hr4⟩
    have HD4 := hid hd4
    have HR4 := hid (HR3.out.trans (hr4.mono HR3.out.size))
    clear hd4 hr4 HR3 HD3
    go_wp2_with fail
    with_reducible refine (dice_Pick g 9 _ HD4.out (by omega) (by omega)).mono ?_
    rintro e w5 ⟨m5, rfl, hm5, hd5, hr5, hs5⟩
    have HD5 := hid hd5
    have HR5 := hid (HR4.out.trans (hr5.mono HR4.out.size))
    clear hd5 hr5 hs5 HR4 HD4
    go_wp2_with fail
    with_reducible refine (dice_Field g m5 (by omega) _ HD5.out).mono ?_
    rintro e w6 ⟨x6, rfl, hx6, -, hd6, hr6⟩
    have HR6 := hid (HR5.out.trans (hr6.mono HR5.out.size))
    have HB6 : Hid (Below w.heap.size w w6) := hid (HB2.out.trans (HR6.out.below (B' := w.heap.size) hz1' (by omega)))
    clear hd6 hr6 HR5 HD5 HR6
    go_wp2_with fail
    have HLX : Hid (∀ k, k < 2 → ∃ x : ByteArray, (w6.alloc (.cells #[.string raw, .string (x4 ++ x6)] 9)).cell? ⟨w6.heap.size, k, none⟩ = some (.string x) ∧ x.size ≤ 300) := hid (by
      intro k hk
      rcases (show k = 0 ∨ k = 1 by omega) with rfl | rfl
      · exact ⟨raw, by simp [World.cell?_alloc_new], by omega⟩
      · exact ⟨x4 ++ x6, by simp [World.cell?_alloc_new], by rw [ByteArray.size_append]; omega⟩)
    have HB7 : Hid (Below w.heap.size w (w6.alloc (.cells #[.string raw, .string (x4 ++ x6)] 9))) := hid (HB6.out.alloc (by have := HB6.out.size; omega) _)
    have hz7 : w6.heap.size < (w6.alloc (.cells #[.string raw, .string (x4 ++ x6)] 9)).heap.size := by simp
    clear HB6 HS3
    generalize w6.alloc (.cells #[.string raw, .string (x4 ++ x6)] 9) = w7 at *
    generalize w6.heap.size = lb at *
    subst hLB
    go_loopg [34] 2 (fun M i wr => ∃ k : Nat, 2 - k = M ∧ k ≤ 2 ∧ i = .int .i64 k ∧ Hid (Below w7.heap.size w7 wr))
    case atStart => exact ⟨0, by omega, by omega, rfl, hid (Below.refl _ _)⟩
    case round =>
      obtain ⟨k, rfl, hk, rfl, HBL⟩ := hrel
      obtain ⟨wo, rfl⟩ : ∃ wo, wo = wr := ⟨wr, rfl⟩
      have hbz := HBL.out.size
      by_cases hk2 : k < 2
      · obtain ⟨x, hc, hx⟩ := HLX.out k hk2
        have c0 := (HBL.out.cell (p := ⟨lb, k, none⟩) hz7).trans hc
        clear hc
        generalize hL2 : Code.loop _ = L2
        generalize hL3 : Code.loop _ = L3
        have H1 := hid (fun W => text_Fold x W (by omega))
        have H2 := hid (fun W => text_Fold (foldB x) W (by rw [foldB_size]; omega))
        rw [foldB_twice] at H2
        have H3 := hid (fun W => text_Trim x W (by omega))
        have hts : (trimS x).size ≤ 300 := Nat.le_trans (trimS_le x) hx
        have H4 := hid (fun W => text_Trim (trimS x) W (by omega))
        have e4 : trimS (trimS x) = trimS x := trimS_twice x
        rw [e4] at H4
        have hws : ((⟨#[32]⟩ : ByteArray) ++ x ++ ⟨#[32, 32]⟩).size ≤ 303 := by rw [ByteArray.size_append, ByteArray.size_append]; show 1 + x.size + 2 ≤ 303; omega
        have H5 := hid (fun W => text_Trim ((⟨#[32]⟩ : ByteArray) ++ x ++ ⟨#[32, 32]⟩) W (by omega))
        have e5 : trimS ((⟨#[32]⟩ : ByteArray) ++ x ++ ⟨#[32, 32]⟩) = trimS x := trimS_wide x
        rw [e5] at H5
        have H6 := hid (fun W => text_Tokens x W (by omega))
        have H7 := hid (fun W => text_Tokens (foldB x) W (by rw [foldB_size]; omega))
        rw [foldB_twice] at H7
        have hfs := foldB_size x
        clear e4 e5 hws hts
        generalize trimS x = y at *
        go_wp2_with fail
        with_reducible refine (H1.out _).mono ?_
        rintro e w8 ⟨rfl, hb8⟩
        have HB8 := hid hb8
        clear hb8 c0
        go_wp2_with fail
        with_reducible refine (H2.out _).mono ?_
        rintro e w9 ⟨rfl, hb9⟩
        have HB9 := hid (HB8.out.trans (hb9.mono HB8.out.size))
        clear hb9 HB8
        go_wp2_with fail
        with_reducible refine (H3.out _).mono ?_
        rintro e w10 ⟨rfl, n10, rfl⟩
        go_wp2_with fail
        with_reducible refine (H4.out _).mono ?_
        rintro e w11 ⟨rfl, n11, rfl⟩
        go_wp2_with fail
        with_reducible refine (H3.out _).mono ?_
        rintro e w12 ⟨rfl, n12, rfl⟩
        go_wp2_with fail
        with_reducible refine (H5.out _).mono ?_
        rintro e w13 ⟨rfl, n13, rfl⟩
        go_wp2_with fail
        with_reducible refine (H3.out _).mono ?_
        rintro e w14 ⟨rfl, n14, rfl⟩
        go_wp2_with fail
        with_reducible refine (H6.out _).mono ?_
        rintro e w15 ⟨a15, c15, rfl, ho15, hb15⟩
        have HX15 := hid (rdS_of_own ho15)
        have HB15 := hid (HB9.out.trans (show Below wo.heap.size w9 w15 from ⟨hb15.os, hb15.tape, hb15.output, hb15.size, fun i hi => hb15.block i (Nat.lt_of_lt_of_le hi HB9.out.size)⟩))
        clear ho15 hb15 HB9 H6 H1 H2 H3 H4 H5
        have HTK := hid (toks_fix (foldB x))
        have HJ := hid (toks_join (foldB x))
        have hall := allB_size (foldB x)
        rw [foldB_size] at hall
        generalize toksB (foldB x) = xs at *
        have hxl := allB_len xs
        have HAT := hid (allB_take xs)
        go_wp2_with fail
        subst hL2
        go_loopg [9, 71] xs.length (fun M av iv ws => ∃ k2 : Nat, xs.length - k2 = M ∧ k2 ≤ xs.length ∧ iv = .int .i64 k2 ∧ av = .string (allB (xs.take k2)) ∧ Hid (Below w15.heap.size w15 ws))
        case atStart => exact ⟨0, by omega, by omega, rfl, by rw [List.take_zero]; rfl, hid (Below.refl _ _)⟩
        case round =>
          obtain ⟨k2, rfl, hk2', rfl, rfl, HBW⟩ := hrel
          have hbwz := HBW.out.size
          have hA2 := HAT.out k2
          by_cases hkx : k2 < xs.length
          · obtain ⟨a', c', he', -, -, hx'⟩ := HX15.out
            obtain ⟨rfl, -, rfl⟩ := Value.slice.inj he'
            obtain ⟨xb, xo, rfl, hxb, hxc⟩ := hx' (by omega)
            have c0 := (HBW.out.cell (p := ⟨xb, xo + k2, none⟩) hxb).trans (hxc k2 hkx)
            obtain ⟨t, ht, hmem⟩ : ∃ t, xs[k2]? = some t ∧ t ∈ xs := ⟨xs[k2], List.getElem?_eq_getElem hkx, List.getElem_mem hkx⟩
            rw [show strF xs k2 = .string t by simp [strF, List.getD, ht]] at c0
            have htk : xs.take (k2 + 1) = xs.take k2 ++ [t] := by rw [List.take_add_one, ht]; rfl
            have hsn := allB_snoc (xs.take k2) t
            rw [← htk] at hsn
            have hA3 := HAT.out (k2 + 1)
            have htz : (allB (xs.take k2)).size + (t.size + 2) = (allB (xs.take (k2 + 1))).size := by rw [← hsn, ByteArray.size_append, ByteArray.size_append]; rfl
            have HT1 := hid (fun W => text_Tokens t W (by omega))
            rw [HTK.out t hmem] at HT1
            have HSN := hid hsn
            clear hsn htk hx' hxc he' hmem ht
            go_wp2_with fail
            with_reducible refine (HT1.out _).mono ?_
            rintro e w16 ⟨a16, c16, rfl, ho16, hb16⟩
            have HB16 := hid (HBW.out.trans (hb16.mono HBW.out.size))
            obtain ⟨a'', c'', he'', -, -, hx''⟩ := rdS_of_own ho16
            obtain ⟨rfl, -, rfl⟩ := Value.slice.inj he''
            obtain ⟨yb, yo, rfl, hyb, hyc⟩ := hx'' (by simp)
            have c1 := hyc 0 (by simp)
            rw [show strF [t] 0 = .string t by simp [strF], show yo + 0 = yo from rfl] at c1
            clear ho16 hb16 he'' hx'' hyc c0
            go_wp2
            go_roundg (xs.length - (k2 + 1))
            case rel => exact ⟨k2 + 1, by omega, by omega, by go_num, by rw [← HSN.out], HB16⟩
            case measure => omega
          · obtain rfl : k2 = xs.length := by omega
            rw [List.take_length]
            have HJA := hid (fun W => text_Tokens (allB xs) W (by omega))
            rw [HJ.out] at HJA
            have HBR := hid (HB15.out.trans (HBW.out.mono HB15.out.size))
            clear HX15 HTK HJ HAT HBW HB15 hA2
            go_wp2_with fail
            with_reducible refine (HJA.out _).mono ?_
            rintro e w16 ⟨a16, c16, rfl, ho16, hb16⟩
            have HX16 := hid (rdS_of_own ho16)
            have HB16 := hid (HBR.out.trans (hb16.mono HBR.out.size))
            clear ho16 hb16 HBR
            go_wp2_with fail
            with_reducible refine (H7.out _).mono ?_
            rintro e w17 ⟨a17, c17, rfl, ho17, hb17⟩
            have HX17 := hid (rdS_of_own ho17)
            have HX16' := hid (show RdS w17 w17.heap.size _ xs from Rd.more (Rd.below HX16.out hb17 (Nat.le_refl _)) hb17.size)
            have HB17 := hid (HB16.out.trans (hb17.mono HB16.out.size))
            clear ho17 hb17 HB16
            go_wp2_with fail
            with_reducible refine (ref_Same _ _ xs xs w17.heap.size _ HX16'.out HX17.out).mono ?_
            rintro e w18 ⟨rfl, n18, rfl⟩
            rw [decide_eq_true (rfl : xs = xs)]
            have HB18 : Hid (Below wo.heap.size wo (w17.drewN n18)) := hid (below_drewN HB17.out)
            clear HX16 HX16' HX17 HB17
            generalize w17.drewN n18 = w18 at *
            obtain ⟨cap, w20, hconv, hF⟩ := bytes_of w18 x
            have HF := hid hF
            have HBK := hid (fun W h => @bytes_backG rotN (fun _ h => rotN_lt h) w18 W x h cap)
            have HB := hid (byteN_lt x)
            have hc0 := hconv w18 rfl
            have HP1 := hid (fun W => text_Pattern x W (by omega))
            have HP2 := hid (fun W => text_Pattern (mapB rotN x) W (by rw [mapB_size]; omega))
            rw [patB_rot] at HP2
            clear hconv hF
            generalize mapB rotN x = r at *
            generalize byteN x = f at *
            go_wp2
            subst hL3
            go_loopg [102] x.size (fun M iv ws => ∃ k3 : Nat, x.size - k3 = M ∧ k3 ≤ x.size ∧ iv = .int .i64 k3 ∧ Hid (FoldAt w18 x.size (fun j => if j < k3 then rotN (f j) else f j) ws))
            case atStart => exact ⟨0, by omega, by omega, rfl, hid (HF.out.congr (fun j _ => by simp))⟩
            case round =>
              obtain ⟨k3, rfl, hk3, rfl, HA⟩ := hrel
              by_cases hkt : k3 < x.size
              · have h1 : wr.cell? ⟨w18.heap.size, k3, none⟩ = some (.int .u8 ((f k3 : Nat) : Int)) := by
                  have := HA.out.cell k3 hkt
                  rwa [if_neg (Nat.lt_irrefl _)] at this
                have h2 := HA.out.froz k3 hkt
                have hb := HB.out k3
                have HS := hid (HA.out.set (f' := fun j => if j < k3 + 1 then rotN (f j) else f j) (v := rotN (f k3)) hkt (fun j _ => by
                  by_cases e : j = k3
                  · subst e; simp
                  · rw [if_neg e]
                    by_cases e2 : j < k3
                    · rw [if_pos e2, if_pos (by omega)]
                    · rw [if_neg e2, if_neg (by omega)]))
                have HN : Hid (rotN (f k3) = f k3 → FoldAt w18 x.size (fun j => if j < k3 + 1 then rotN (f j) else f j) wr) := hid (fun e => HA.out.congr (fun j _ => by
                  by_cases e2 : j < k3
                  · rw [if_pos e2, if_pos (by omega)]
                  · rw [if_neg e2]
                    by_cases e3 : j = k3
                    · subst e3; rw [if_pos (by omega), e]
                    · rw [if_neg (by omega)]))
                have HFN : Hid (∀ c, rotN c = if 48 ≤ c ∧ c ≤ 57 then 48 + (c - 48 + 7) % 10 else c) := hid (fun _ => rfl)
                clear HA
                generalize f k3 = c at *
                by_cases hc1 : 48 ≤ c
                · by_cases hc2 : c ≤ 57
                  · go_wp2
                    go_roundg (x.size - (k3 + 1))
                    case rel => exact ⟨k3 + 1, by omega, by omega, by go_num, hid (HS.out.val (by rw [HFN.out, if_pos ⟨hc1, hc2⟩]; go_num))⟩
                    case measure => omega
                  · go_wp2
                    go_roundg (x.size - (k3 + 1))
                    case rel => exact ⟨k3 + 1, by omega, by omega, by go_num, hid (HN.out (by rw [HFN.out, if_neg (by omega)]))⟩
                    case measure => omega
                · go_wp2
                  go_roundg (x.size - (k3 + 1))
                  case rel => exact ⟨k3 + 1, by omega, by omega, by go_num, hid (HN.out (by rw [HFN.out, if_neg (by omega)]))⟩
                  case measure => omega
              · obtain rfl : k3 = x.size := by omega
                have hbk := HBK.out wr (HA.out.congr (fun j hj => by rw [if_pos hj]))
                have HB21 := hid (HB18.out.trans (HA.out.below.mono HB18.out.size))
                clear HA HF
                go_wp2_with fail
                with_reducible refine (HP2.out _).mono ?_
                rintro e w22 ⟨rfl, hb22⟩
                have HB22 := hid (HB21.out.trans (hb22.mono HB21.out.size))
                clear hb22 HB21
                go_wp2_with fail
                with_reducible refine (HP1.out _).mono ?_
                rintro e w23 ⟨rfl, hb23⟩
                have HB23 := hid (HB22.out.trans (hb23.mono HB22.out.size))
                clear hb23 HB22
                go_wp2_with fail
                go_roundg (2 - (k + 1))
                case rel => exact ⟨k + 1, by omega, by omega, by go_num, hid (HBL.out.trans (HB23.out.mono hbz))⟩
                case measure => omega
      · obtain rfl : k = 2 := by omega
        go_wp2_with fail
        go_ret
        exact ⟨rfl, HB7.out.trans (HBL.out.mono (by have := HB7.out.size; omega))⟩

end Go.Proofs.YtdncdlcfgljheaaDoor
