/- Contracts of cmp.Compare at texts, table.CompareCells, and the closure of explain.ascending. Contracts of slices.SortStableFunc at few numbers, with the closure of explain.ascending. Contract of explain.ascending (tables of few rows). -/
import Derived.Deep.RegionHeld3
import Derived.Test.YtaajpliifdlokaaGreatDoorLnNral
import Derived.Deep.QuietTactic
import Derived.Test.YtaajpliifdlokaaGreatDoorLnNras
set_option linter.unusedVariables false
set_option linter.unusedSimpArgs false
namespace Go.Proofs.YtaajpliifdlokaaGreatDoor
open Go.RowKit
set_option maxHeartbeats 400000 in
theorem lib_nanU (x : ByteArray) (w : World) : Calls Tryz.prog 290 #[.string x] w fun e w' => e = .returned (.bool false) ∧ w = w' := by
  have h1 : (x.toList != x.toList) = false := by simp
  go_enter Tryz.func290, Tryz.ntmps290
  go_wp2
  go_ret
  exact ⟨rfl, rfl⟩
def cmpS (x y : ByteArray) : Int := if sl x y = true then -1 else if x = y then 0 else 1
set_option maxHeartbeats 1000000 in
theorem lib_cmpU (x y : ByteArray) (w : World) : Calls Tryz.prog 284 #[.string x, .string y] w fun e w' => e = .returned (.int .i64 (cmpS x y)) ∧ w = w' := by
  have HC : Hid (cmpS x y = if sl x y = true then -1 else if sl y x = true then 1 else 0) := hid (by
    unfold cmpS
    rcases sl_total x y with h | h | h
    · rw [if_pos h, if_pos h]
    · subst h; rw [sl_irrefl]; simp
    · have h2 : sl x y = false := by
        cases h3 : sl x y with
        | false => rfl
        | true => have := sl_trans h h3; rw [sl_irrefl] at this; cases this
      have h3 : x ≠ y := by intro e; subst e; rw [sl_irrefl] at h; cases h
      rw [h2, h, if_neg h3]; simp)
  have h1 : sl x y = Op.bytesLess x.toList y.toList := rfl
  have h2 : sl y x = Op.bytesLess y.toList x.toList := rfl
  have HQ : Hid (sl x y = false → sl y x = true → (x.toList == y.toList) = false) := hid (fun _ h => by
    have hne : x ≠ y := fun e => by rw [e, sl_irrefl] at h; cases h
    have hl : ¬ x.toList = y.toList := fun e => hne (bytes_ext e)
    simpa using hl)
  have HR : Hid (sl x y = false → sl y x = false → (x.toList == y.toList) = true) := hid (fun h h' => by
    rcases sl_total x y with h2 | h2 | h2
    · rw [h] at h2; cases h2
    · rw [h2]; simp
    · rw [h'] at h2; cases h2)
  generalize cmpS x y = c at *
  generalize sl x y = l1 at *
  generalize sl y x = l2 at *
  go_enter Tryz.func284, Tryz.ntmps284
  go_wp2_with fail
  with_reducible refine (lib_nanU _ _).mono ?_
  rintro e w1 ⟨rfl, rfl⟩
  go_wp2_with fail
  with_reducible refine (lib_nanU _ _).mono ?_
  rintro e w1 ⟨rfl, rfl⟩
  cases l1
  · cases l2
    · have h3 := h1.symm
      have h4 := h2.symm
      have h5 := HR.out rfl rfl
      clear h1 h2
      go_wp2
      go_ret
      exact ⟨ret_int (by rw [HC.out]; simp), rfl⟩
    · have h3 := h1.symm
      have h4 := h2.symm
      have h5 := HQ.out rfl rfl
      clear h1 h2
      go_wp2
      go_ret
      exact ⟨ret_int (by rw [HC.out]; simp), rfl⟩
  · have h3 := h1.symm
    clear h1 h2
    go_wp2
    go_ret
    exact ⟨ret_int (by rw [HC.out]; simp), rfl⟩
set_option maxHeartbeats 1000000 in
theorem table_CompareCells (a b : Cl) (w : World) :
    Calls Tryz.prog 269 #[.agg #[.bool a.null, .string a.text], .agg #[.bool b.null, .string b.text]] w (Ret w (.int .i64 (cmpC a b))) := by
  have HC := hid (show cmpC a b = if a.null = true ∧ b.null = true then 0 else if a.null = true then -1 else if b.null = true then 1 else cmpS a.text b.text from rfl)
  have HB : Hid (Below w.heap.size w ((w.alloc (.cells #[.bool a.null, .string a.text] 84)).alloc (.cells #[.bool b.null, .string b.text] 84))) := hid (((Below.refl _ _).alloc (Nat.le_refl _) _).alloc (by simp) _)
  generalize cmpC a b = R at *
  obtain ⟨an, s⟩ := a
  obtain ⟨bn, t⟩ := b
  simp only at HC HB
  have ha := (BoxN.new w #[.bool an, .string s] 84).alloc (.cells #[.bool bn, .string t] 84)
  have hb := BoxN.new (w.alloc (.cells #[.bool an, .string s] 84)) #[.bool bn, .string t] 84
  rw [World.size_alloc] at hb
  have a0 := ha.cell 0 rfl
  have a1 := ha.cell 1 rfl
  have b0 := hb.cell 0 rfl
  have b1 := hb.cell 1 rfl
  clear ha hb
  cases an
  · cases bn
    · have hc : R = cmpS s t := by simpa using HC.out
      subst hc
      clear HC
      go_enter Tryz.func269, Tryz.ntmps269
      go_wp2_with fail
      with_reducible refine (lib_cmpU s t _).mono ?_
      rintro e w1 ⟨rfl, rfl⟩
      go_wp2
      go_ret
      exact ⟨rfl, HB.out⟩
    · obtain rfl : R = 1 := by simpa using HC.out
      clear HC
      go_enter Tryz.func269, Tryz.ntmps269
      go_wp2
      go_ret
      exact ⟨rfl, HB.out⟩
  · cases bn
    · obtain rfl : R = -1 := by simpa using HC.out
      clear HC
      go_enter Tryz.func269, Tryz.ntmps269
      go_wp2
      go_ret
      exact ⟨rfl, HB.out⟩
    · obtain rfl : R = 0 := by simpa using HC.out
      clear HC
      go_enter Tryz.func269, Tryz.ntmps269
      go_wp2
      go_ret
      exact ⟨rfl, HB.out⟩
set_option maxRecDepth 100000 in
set_option maxHeartbeats 2000000 in
theorem expl_asc1 (cs : List Cl) (z : Value) (cb B x y : Nat) (w : World) (hz : RdCl w (· < B) z cs) (hB : B ≤ w.heap.size) (hcb : w.cell? ⟨cb, 0, none⟩ = some z) (hcz : cb < w.heap.size) (hx : x < cs.length) (hy : y < cs.length) :
    Calls Tryz.prog 268 #[.int .i64 (x : Int), .int .i64 (y : Int), .pointer (some ⟨cb, 0, none⟩)] w (Ret w (.int .i64 (cmpC (cs.getD x Cl.z) (cs.getD y Cl.z)))) := by
  have HCC := hid (table_CompareCells (cs.getD x Cl.z) (cs.getD y Cl.z))
  obtain ⟨a, c, rfl, hcc, hm, hr⟩ := hz
  obtain ⟨b, o, rfl, hb, hcell⟩ := hr (by omega)
  have hbw : b < w.heap.size := by have : b < B := hb; omega
  have e0 : w.cell? ⟨b, o + x * 2, none⟩ = some (.bool (cs.getD x Cl.z).null) := hcell x hx 0 (by omega)
  have e1 : w.cell? ⟨b, o + x * 2 + 1, none⟩ = some (.string (cs.getD x Cl.z).text) := hcell x hx 1 (by omega)
  have e2 : w.cell? ⟨b, o + y * 2, none⟩ = some (.bool (cs.getD y Cl.z).null) := hcell y hy 0 (by omega)
  have e3 : w.cell? ⟨b, o + y * 2 + 1, none⟩ = some (.string (cs.getD y Cl.z).text) := hcell y hy 1 (by omega)
  unfold maxLen at hm
  have hx' : (x : Int) < (cs.length : Int) := by omega
  have hy' : (y : Int) < (cs.length : Int) := by omega
  clear hcell hr
  generalize cs.getD x Cl.z = c1 at *
  generalize cs.getD y Cl.z = c2 at *
  generalize cs.length = n at *
  generalize cmpC c1 c2 = R at *
  obtain ⟨n1, s1⟩ := c1
  obtain ⟨n2, s2⟩ := c2
  simp only at e0 e1 e2 e3 HCC
  have HG := hid (fun W (hW : Below w.heap.size w W) => (⟨(hW.cell (p := ⟨cb, 0, none⟩) hcz).trans hcb, (hW.cell (p := ⟨b, o + x * 2, none⟩) hbw).trans e0, (hW.cell (p := ⟨b, o + x * 2 + 1, none⟩) hbw).trans e1, (hW.cell (p := ⟨b, o + y * 2, none⟩) hbw).trans e2, (hW.cell (p := ⟨b, o + y * 2 + 1, none⟩) hbw).trans e3⟩ :
    W.cell? ⟨cb, 0, none⟩ = some (.slice (some ⟨b, o, none⟩) n c) ∧ W.cell? ⟨b, o + x * 2, none⟩ = some (.bool n1) ∧ W.cell? ⟨b, o + x * 2 + 1, none⟩ = some (.string s1) ∧ W.cell? ⟨b, o + y * 2, none⟩ = some (.bool n2) ∧ W.cell? ⟨b, o + y * 2 + 1, none⟩ = some (.string s2)))
  have HDR : Hid (Below w.heap.size w w.drew) := hid (Below.refl w.heap.size w).drew
  go_enter Tryz.func268, Tryz.ntmps268
  go_upto_region 1 with fail
  go_region_held3 (fun w' => w'.cell? ⟨cb, 0, none⟩ = some (.slice (some ⟨b, o, none⟩) n c) ∧ w'.cell? ⟨b, o + x * 2, none⟩ = some (.bool n1) ∧ w'.cell? ⟨b, o + x * 2 + 1, none⟩ = some (.string s1) ∧ w'.cell? ⟨b, o + y * 2, none⟩ = some (.bool n2) ∧ w'.cell? ⟨b, o + y * 2 + 1, none⟩ = some (.string s2))
    (first | exact HG.out _ (Below.refl _ _) | exact HG.out _ HDR.out | exact HG.out _ HC5.out | go_keep)
    ((go_at_call 269; go_must ((with_reducible refine (HCC.out w.drew).mono ?_); rintro e w5 ⟨rfl, hb5⟩; have HC5 : Hid (Below w.heap.size w w5) := hid (HDR.out.trans (hb5.mono HDR.out.size)); clear hb5)))
  all_goals
    go_wp2
    go_ret
    exact ⟨rfl, HC5.out⟩
end Go.Proofs.YtaajpliifdlokaaGreatDoor

namespace Go.Proofs.YtaajpliifdlokaaGreatDoor
open Go.RowKit
theorem rowsL_slen {xs : List Co} {o : Po} (hk : o.kind = 5) (n : Nat) : (rowsL xs o n).length = n := by
  have := (rowsL_perm (xs := xs) hk n).length_eq
  rw [this, List.length_range]
theorem range_cut {q n : Nat} (h : q < n) : List.range' q (n - q) = q :: List.range' (q + 1) (n - (q + 1)) := by
  rw [show n - q = (n - (q + 1)) + 1 by omega, List.range'_succ]
def sortedTo (F : Nat → List Nat) (n i : Nat) : List Nat := F i ++ List.range' i (n - i)
set_option maxRecDepth 100000 in
set_option maxHeartbeats 4000000 in
theorem ins_sort (xs : List Co) (o : Po) (hk : o.kind = 5) (n b cb : Nat) (w : World) (hN : Nums w b (List.range n)) (hn : n ≤ 1048576)
  (H : ∀ x y, x < n → y < n → ∀ W, Roll w.heap.size b w W → Calls Tryz.prog 268 #[.int .i64 (x : Int), .int .i64 (y : Int), .pointer (some ⟨cb, 0, none⟩)] W (Ret W (.int .i64 (cmpC (cellAt xs o.col.toNat x) (cellAt xs o.col.toNat y))))) :
  Calls Tryz.prog 291 #[.slice (some ⟨b, 0, none⟩) n n, .int .i64 0, .int .i64 (n : Int), .func (.func 268) #[] #[.pointer (some ⟨cb, 0, none⟩)]] w
   (fun e w' => e = .returned (.tuple #[]) ∧ Nums w' b (rowsL xs o n) ∧ Roll w.heap.size b w w') := by
 have hbl := World.rowIs.lt hN
 have HH := hid H
 have HFL := hid (fun q => rowsL_slen (xs := xs) hk q)
 have HFM := hid (fun q => (rowsL_ok xs o q).2)
 have HST := hid (fun q rest => (step_ins hk (rowsL xs o q) q rest).trans (congrArg (· ++ rest) (rowsL_succ xs o q).symm))
 have HGT := hid (fun q x => gtC_iff xs o.col.toNat q x)
 have hF0 : rowsL xs o 0 = [] := rfl
 have hF1 : rowsL xs o 1 = [0] := by
  have h1 := rowsL_slen (xs := xs) hk 1
  have h2 := (rowsL_ok xs o 1).2
  match hh : rowsL xs o 1, h1, h2 with
  | [a], _, h2 =>
   have := h2 a (by simp)
   obtain rfl : a = 0 := by omega
   rfl
 clear H
 generalize rowsL xs o = F at *
 by_cases h0 : n = 0
 ·subst h0
  go_enter Tryz.func291, Tryz.ntmps291
  go_wp2_with fail
  refine wp_loop_rounds 1 ?_
  rw [rounds_succ]
  go_wp2
  go_end0
  exact ⟨rfl, by rw [hF0]; exact hN, Roll.refl _ _ _⟩
 ·have hst0 : sortedTo F n 1 = List.range n := by
   unfold sortedTo
   rw [hF1, List.range_eq_range', show n = (n - 1) + 1 by omega, List.range'_succ]
   simp
  have HST0 := hid hst0
  have HN := hid hN
  clear hF0 hF1 hst0 hN
  go_enter Tryz.func291, Tryz.ntmps291
  generalize hLA : Code.loop _ = LA
  go_wp2_with fail
  subst hLA
  go_loopg [8] n (fun N i wr => ∃ q : Nat, i = .int .i64 (q : Int) ∧ 1 ≤ q ∧ q ≤ n ∧ n ≤ q + N ∧ Hid (Roll w.heap.size b w wr) ∧ Hid (Nums wr b (sortedTo F n q)))
  case atStart => exact ⟨1, by go_num, by omega, by omega, by omega, hid (Roll.refl _ _ _), hid (by rw [HST0.out]; exact HN.out)⟩
  case round =>
   obtain ⟨q, rfl, hq1, hqn, hqN, HB, HNU⟩ := hrel
   obtain ⟨wo, rfl⟩ : ∃ wo, wo = wr := ⟨wr, rfl⟩
   obtain ⟨gO, rfl⟩ : ∃ gO, gO = gk := ⟨gk, rfl⟩
   by_cases hp : q < n
   ·have HLQ := HFL.out q
    have HMQ := hid (HFM.out q)
    have hsz : sortedTo F n q = insL (F q) (F q).length q (List.range' (q + 1) (n - (q + 1))) := by
     rw [insL_top, ← range_cut hp]
     rfl
    rw [hsz, HLQ] at HNU
    have HEND := hid (HST.out q (List.range' (q + 1) (n - (q + 1))))
    rw [HLQ] at HEND
    have HGQ := hid (fun x => HGT.out q x)
    generalize hFq : F q = X at *
    have HXL := hid HLQ
    have hrl : (List.range' (q + 1) (n - (q + 1))).length = n - (q + 1) := by simp
    have HRL := hid hrl
    clear hFq hsz HLQ hrl
    have HEN2 : Hid (F (q + 1) ++ List.range' (q + 1) (n - (q + 1)) = sortedTo F n (q + 1)) := hid rfl
    generalize List.range' (q + 1) (n - (q + 1)) = rest at *
    generalize hgg : gtC xs o.col.toNat q = gg at *
    have hqn' : (q : Int) < (n : Int) := by omega
    generalize hLB : Code.loop _ = LB
    go_wp2_with fail
    subst hLB
    go_loopg [9] q (fun N jv wr => ∃ j : Nat, jv = .int .i64 (j : Int) ∧ j ≤ q ∧ j ≤ N ∧ Hid (Roll w.heap.size b w wr) ∧ Hid (Nums wr b (insL X j q rest)) ∧ Hid (sortAt gg X j = sortAt gg X q))
    case atStart => exact ⟨q, rfl, Nat.le_refl _, Nat.le_refl _, HB, HNU, hid rfl⟩
    case round =>
     obtain ⟨j, rfl, hjq, hjN, HBJ, HNJ, HSA⟩ := hrel
     have hil : (insL X j q rest).length = n := by rw [insL_len (by rw [HXL.out]; exact hjq), HXL.out, HRL.out]; omega
     by_cases hj0 : j = 0
     ·subst hj0
      have HNX : Hid (Nums wr b (sortedTo F n (q + 1))) := hid (by
       rw [← HEN2.out, ← HEND.out, ← HSA.out]
       exact HNJ.out)
      clear HSA HNJ hil
      go_upto_region 4 with fail
      go_quiet (fail)
      go_wp2
      go_roundg (gO - 1)
      case rel => exact ⟨q + 1, by go_num, by omega, by omega, by omega, hid (by have := HBJ.out; exact this.drewN _), HNX⟩
      case measure => omega
     ·obtain ⟨k, rfl⟩ : ∃ k, j = k + 1 := ⟨j - 1, by omega⟩
      have hkX : k < X.length := by rw [HXL.out]; omega
      have hy := HMQ.out _ (getD_mem hkX 0)
      have hGy := HGQ.out (X.getD k 0)
      have c1 := World.rowIs.cell HNJ.out (i := k + 1) (by rw [hil]; omega)
      have c0 := World.rowIs.cell HNJ.out (i := k) (by rw [hil]; omega)
      unfold natF at c0 c1
      rw [insL_at (by rw [HXL.out]; exact hjq)] at c1
      rw [insL_before hkX] at c0
      have HQ := hid (HH.out q (X.getD k 0) hp (by omega))
      have HPASS : Hid (gg (X.getD k 0) = true → sortAt gg X (k + 1) = sortAt gg X k) := hid sortAt_pass
      have HSTOP : Hid (gg (X.getD k 0) = false → sortAt gg X (k + 1) = k + 1) := hid sortAt_stop
      have HSW1 := hid (insL_swap hkX q rest)
      have hkq : k + 1 ≤ q := hjq
      have hkn : (k : Int) + 1 < (n : Int) := by omega
      have hkn0 : (k : Int) < (n : Int) := by omega
      have hkw : IntKind.i64.wrap ((k : Int) + 1 - 1) = (k : Int) := by rw [show (k : Int) + 1 - 1 = (k : Int) by omega]; exact IntWalk.i64_in _ (by omega)
      have hkw2 : IntKind.i64.wrap (k : Int) = (k : Int) := IntWalk.i64_in _ (by omega)
      have hk0 : (0 : Int) < (k : Int) + 1 := by omega
      have hk1 : (0 : Int) ≤ (k : Int) + 1 := by omega
      have hk2 : (0 : Int) ≤ (k : Int) := by omega
      clear hy
      generalize X.getD k 0 = y at *
      generalize cmpC (cellAt xs o.col.toNat q) (cellAt xs o.col.toNat y) = r at *
      have HG := hid (fun W (hW : Below wr.heap.size wr W) => (⟨(hW.cell (p := ⟨b, k + 1, none⟩) (Nat.lt_of_lt_of_le hbl HBJ.out.size)).trans c1, (hW.cell (p := ⟨b, k, none⟩) (Nat.lt_of_lt_of_le hbl HBJ.out.size)).trans c0⟩ : W.cell? ⟨b, k + 1, none⟩ = some (.int .i64 (q : Int)) ∧ W.cell? ⟨b, k, none⟩ = some (.int .i64 (y : Int))))
      have HDR : Hid (Below wr.heap.size wr wr.drew) := hid (Below.refl wr.heap.size wr).drew
      have HRD : Hid (Roll w.heap.size b w wr.drew) := hid (HBJ.out.drewN 1)
      go_upto_region 4 with fail
      go_region_held3 (fun w' => w'.cell? ⟨b, k + 1, none⟩ = some (.int .i64 (q : Int)) ∧ w'.cell? ⟨b, k, none⟩ = some (.int .i64 (y : Int)))
       (first | exact HG.out _ (Below.refl _ _) | exact HG.out _ HDR.out | exact HG.out _ HC5.out | go_keep)
       ((go_at_call 268; go_must ((with_reducible refine (HQ.out wr.drew HRD.out).mono ?_); rintro e w5 ⟨rfl, hb5⟩; have HC5 : Hid (Below wr.heap.size wr w5) := hid (HDR.out.trans (hb5.mono HDR.out.size)); clear hb5)))
      all_goals
       clear c0 c1
       obtain ⟨c1, c0⟩ := HG.out w5 HC5.out
       clear HG
       have hb5w := HC5.out.size
       have hbz : b < wr.heap.size := Nat.lt_of_lt_of_le hbl HBJ.out.size
       have HB5 := hid (HBJ.out.trans (Roll.of_below (HC5.out.mono HBJ.out.size) b))
       have HN5 := hid (HNJ.out.later (HC5.out.block b hbz))
       cases hr0 : decide (r < 0) with
       | true =>
        have HPS := hid (HPASS.out (hGy.trans hr0))
        have hr1 : r < 0 := of_decide_eq_true hr0
        clear hGy hr0
        have f1 := World.rowIs.frozen HN5.out (k + 1)
        have f0 := World.rowIs.frozen HN5.out k
        have g0 : (w5.setCell ⟨b, k + 1, none⟩ (.int .i64 (y : Int))).cell? ⟨b, k, none⟩ = some (.int .i64 (y : Int)) := (World.cell?_setCell_other _ _ _ _ (by intro e; injection e with _ e; omega)).trans c0
        have HPUT := hid ((HN5.out.put (k + 1) y).put k q)
        rw [HSW1.out] at HPUT
        have HB6 := hid ((HB5.out.setCell (p := ⟨b, k + 1, none⟩) rfl (.int .i64 (y : Int))).setCell (p := ⟨b, k, none⟩) rfl (.int .i64 (q : Int)))
        go_wp2
        go_region
        clear c1 c0 f1 f0 g0
        go_wp2
        go_roundg (gk - 1)
        case rel => exact ⟨k, by go_num, by omega, by omega, hid (HB6.out.drewN 1), HPUT, hid (HPS.out.symm.trans HSA.out)⟩
        case measure => omega
       | false =>
        have HSP := hid (HSTOP.out (hGy.trans hr0))
        have hr1 : 0 ≤ r := by have := of_decide_eq_false hr0; omega
        have HNX : Hid (Nums w5 b (sortedTo F n (q + 1))) := hid (by
         rw [← HEN2.out, ← HEND.out, ← HSA.out, HSP.out]
         exact HN5.out)
        clear hGy hr0
        go_wp2
        go_roundg (gO - 1)
        case rel => exact ⟨q + 1, by go_num, by omega, by omega, by omega, HB5, HNX⟩
        case measure => omega
   ·obtain rfl : q = n := by omega
    have hso : sortedTo F q q = F q := by unfold sortedTo; rw [Nat.sub_self]; simp
    rw [hso] at HNU
    clear hso
    go_wp2
    go_end0
    exact ⟨rfl, HNU.out, HB.out⟩
end Go.Proofs.YtaajpliifdlokaaGreatDoor

namespace Go.Proofs.YtaajpliifdlokaaGreatDoor
open Go.RowKit
set_option maxRecDepth 100000 in
set_option maxHeartbeats 2000000 in
theorem stable_sort (xs : List Co) (o : Po) (hk : o.kind = 5) (n b cb : Nat) (w : World) (hN : Nums w b (List.range n)) (hn : n ≤ 19)
    (H : ∀ x y, x < n → y < n → ∀ W, Roll w.heap.size b w W → Calls Tryz.prog 268 #[.int .i64 (x : Int), .int .i64 (y : Int), .pointer (some ⟨cb, 0, none⟩)] W (Ret W (.int .i64 (cmpC (cellAt xs o.col.toNat x) (cellAt xs o.col.toNat y))))) :
    Calls Tryz.prog 267 #[.slice (some ⟨b, 0, none⟩) n n, .func (.func 268) #[] #[.pointer (some ⟨cb, 0, none⟩)]] w
      (fun e w' => e = .returned (.tuple #[]) ∧ Nums w' b (rowsL xs o n) ∧ Roll w.heap.size b w w') := by
  have HIN := hid (ins_sort xs o hk n b cb w hN (by omega) H)
  have HST : Hid (Calls Tryz.prog 283 #[.slice (some ⟨b, 0, none⟩) n n, .int .i64 (n : Int), .func (.func 268) #[] #[.pointer (some ⟨cb, 0, none⟩)]] w
      (fun e w' => e = .returned (.tuple #[]) ∧ Nums w' b (rowsL xs o n) ∧ Roll w.heap.size b w w')) := hid (by
    clear H hN
    generalize rowsL xs o n = R at *
    have h1 : ¬ (20 : Int) ≤ (n : Int) := by omega
    have h2 : ¬ (20 : Int) < (n : Int) := by omega
    go_enter Tryz.func283, Tryz.ntmps283
    go_wp2_with fail
    refine wp_loop_rounds 1 ?_
    rw [rounds_succ]
    go_wp2_with fail
    with_reducible refine HIN.out.mono ?_
    rintro e w1 ⟨rfl, hn1, hr1⟩
    have HN1 := hid hn1
    have HR1 := hid hr1
    clear hn1 hr1
    go_wp2_with fail
    refine wp_loop_rounds 1 ?_
    rw [rounds_succ]
    go_wp2
    go_end0
    exact ⟨rfl, HN1.out, HR1.out⟩)
  clear H hN HIN
  generalize rowsL xs o n = R at *
  go_enter Tryz.func267, Tryz.ntmps267
  go_wp2_with fail
  with_reducible refine HST.out.mono ?_
  rintro e w1 ⟨rfl, hn1, hr1⟩
  have HN1 := hid hn1
  have HR1 := hid hr1
  clear hn1 hr1
  go_wp2
  go_end0
  exact ⟨rfl, HN1.out, HR1.out⟩
set_option maxRecDepth 100000 in
set_option maxHeartbeats 4000000 in
theorem expl_ascending (o : Po) (hk : o.kind = 5) (id : Int) (nm : ByteArray) (v u : Value) (xs : List Co) (n B : Nat) (w : World) (hv : RdCo w (· < B) v xs) (hB : B ≤ w.heap.size) (hcol : 0 ≤ o.col ∧ o.col < xs.length) (hl : xs.length ≤ 1048576) (hc : ∀ x ∈ xs, x.cells.length = n) (hn : rowsC xs = n) (hn4 : n ≤ 19) (hu : ∃ ua un uc, u = .slice ua un uc) :
  Calls Tryz.prog 251 #[.agg #[.int .i64 id, .string nm, v], o.val u] w (NewT w id nm (doL xs o)) := by
 have hk3 : o.kind ≠ 3 := by omega
 have hdo : doL xs o = selL xs (rowsL xs o n) := by rw [doL_rows hk3, hn]
 rw [hdo]
 obtain ⟨kk, hkk⟩ : ∃ kk : Nat, o.col = (kk : Int) := ⟨o.col.toNat, by omega⟩
 have hkl : kk < xs.length := by omega
 have hkeep := fun W (hW : Below w.heap.size w W) => (hv.keep fun p (hp : p.block < B) => hW.cell (p := p) (by omega) : RdCo W (· < B) v xs)
 have hRW := fun W (hW : Below w.heap.size w W) => expl_rows id nm v xs B W (hkeep W hW) (Nat.le_trans hB hW.size) (by omega)
 rw [hn] at hRW
 have HRW := hid hRW
 have HPK := hid (fun y F W (hW : Below w.heap.size w W) (hF : ∀ r ∈ F, r < n) (hFl : F.length ≤ n) (hy : Rd W W.heap.size y F.length (natF F)) => expl_pick id nm v y xs F W.heap.size n W ((hkeep W hW).more fun b (hb : b < B) => by show b < W.heap.size; have := hW.size; omega) hy (Nat.le_refl _) hl hc (by omega) hF (by omega))
 have HF1 : Hid (∀ r ∈ rowsL xs o n, r < n) := hid (rowsL_ok xs o n).2
 have hFl : (rowsL xs o n).length = n := rowsL_slen hk n
 obtain ⟨cv, hcv, hcl⟩ := hv
 have hclk := hcl kk hkl
 have hcn := hc _ (getD_mem hkl Co.z)
 have HSS := hid (fun b cb W (hW : Below w.heap.size w W) (hN : Nums W b (List.range n)) (hb : w.heap.size ≤ b) (hcb : W.cell? ⟨cb, 0, none⟩ = some (cv kk)) (hcz : cb < W.heap.size) (hne : cb ≠ b) =>
  stable_sort xs o hk n b cb W hN hn4 (fun x y hx hy W' hW' => by
   have h := expl_asc1 (xs.getD kk Co.z).cells (cv kk) cb B x y W' ((hclk.keep fun p (hp : p.block < B) => hW.cell (p := p) (by omega)).keep fun p (hp : p.block < B) => hW'.cell (p := p) (by have := hW.size; omega) (by omega)) (by have := hW.size; have := hW'.size; omega) ((hW'.cell (p := ⟨cb, 0, none⟩) hcz hne).trans hcb) (Nat.lt_of_lt_of_le hcz hW'.size) (by omega) (by omega)
   have e : o.col.toNat = kk := by omega
   rw [e]
   exact h))
 obtain ⟨va, vc, rfl, hvc, hvm, hr⟩ := hcv
 obtain ⟨b, oo, rfl, hb, hcell⟩ := hr (by omega)
 have hbw : b < w.heap.size := by have : b < B := hb; omega
 have k1 : w.cell? ⟨b, oo + kk * 2 + 1, none⟩ = some (cv kk) := hcell kk hkl 1 (by omega)
 obtain ⟨ca, ck, hcq, -⟩ := hclk
 rw [hcq] at k1 HSS
 rw [hcn] at k1 HSS
 obtain ⟨ua, un, uc, rfl⟩ := hu
 unfold maxLen at hvm
 clear hkeep hRW hc hn hk hk3 hdo hcell hr hcl hcq hcn
 generalize hFF : rowsL xs o n = F at *
 clear hFF
 obtain ⟨kind, col, text, cols⟩ := o
 simp only [Po.val] at *
 subst hkk
 have hkl' : (kk : Int) < (xs.length : Int) := by omega
 generalize hxl : xs.length = L at *
 have HXL := hid hxl
 clear hxl
 have HX0 := hid (((BoxN.new w #[.int .i64 id, .string nm, .slice (some ⟨b, oo, none⟩) L vc] 51).alloc (.cells #[.int .i64 kind, .int .i64 (kk : Int), .string text, .slice ua un uc] 122)).alloc (.cells #[.int .i64 0, .string ⟨#[]⟩, .slice none 0 0] 51))
 have ho0 := (BoxN.new (w.alloc (.cells #[.int .i64 id, .string nm, .slice (some ⟨b, oo, none⟩) L vc] 51)) #[.int .i64 kind, .int .i64 (kk : Int), .string text, .slice ua un uc] 122).alloc (.cells #[.int .i64 0, .string ⟨#[]⟩, .slice none 0 0] 51)
 rw [World.size_alloc] at ho0
 have HO0 := hid ho0
 have HB0 := hid ((((Below.refl w.heap.size w).alloc (Nat.le_refl _) (.cells #[.int .i64 id, .string nm, .slice (some ⟨b, oo, none⟩) L vc] 51)).alloc (by simp) (.cells #[.int .i64 kind, .int .i64 (kk : Int), .string text, .slice ua un uc] 122)).alloc (by simp; omega) (.cells #[.int .i64 0, .string ⟨#[]⟩, .slice none 0 0] 51))
 have hy0 := BoxN.new ((w.alloc (.cells #[.int .i64 id, .string nm, .slice (some ⟨b, oo, none⟩) L vc] 51)).alloc (.cells #[.int .i64 kind, .int .i64 (kk : Int), .string text, .slice ua un uc] 122)) #[.int .i64 0, .string ⟨#[]⟩, .slice none 0 0] 51
 rw [World.size_alloc, World.size_alloc] at hy0
 have HY0 := hid hy0
 have hz0' : (((w.alloc (.cells #[.int .i64 id, .string nm, .slice (some ⟨b, oo, none⟩) L vc] 51)).alloc (.cells #[.int .i64 kind, .int .i64 (kk : Int), .string text, .slice ua un uc] 122)).alloc (.cells #[.int .i64 0, .string ⟨#[]⟩, .slice none 0 0] 51)).heap.size = w.heap.size + 3 := by simp
 have x0 := HX0.out.cell 0 rfl
 have x1 := HX0.out.cell 1 rfl
 have x2 := HX0.out.cell 2 rfl
 clear hy0 ho0
 go_enter Tryz.func251, Tryz.ntmps251
 go_wp2_with fail
 generalize ((w.alloc (.cells #[.int .i64 id, .string nm, .slice (some ⟨b, oo, none⟩) L vc] 51)).alloc (.cells #[.int .i64 kind, .int .i64 (kk : Int), .string text, .slice ua un uc] 122)).alloc (.cells #[.int .i64 0, .string ⟨#[]⟩, .slice none 0 0] 51) = W0 at *
 have hz0a := Nat.le_of_eq hz0'
 have hz0b := Nat.le_of_eq hz0'.symm
 clear hz0'
 with_reducible refine (HRW.out W0 HB0.out).mono ?_
 rintro e w1 ⟨b1, rfl, hN1, hbb1, hb1⟩
 have HB1 := hid (HB0.out.trans (hb1.mono (by omega)))
 have HX1 := hid (HX0.out.below hb1 HX0.out.lt)
 have HY1 := hid (HY0.out.below hb1 HY0.out.lt)
 have HO1 := hid (HO0.out.below hb1 HO0.out.lt)
 have hz1 := hb1.size
 have hb1l := World.rowIs.lt hN1
 have k1' := (HB1.out.cell (p := ⟨b, oo + kk * 2 + 1, none⟩) hbw).trans k1
 have HN2 := hid (hN1.later (w' := w1.alloc (.cells #[.slice ca n ck] 53)) (Below.heap_alloc _ _ _ hb1l))
 have HB2 := hid (HB1.out.alloc (by omega) (.cells #[.slice ca n ck] 53))
 have HX2 := hid (HX1.out.alloc (.cells #[.slice ca n ck] 53))
 have HY2 := hid (HY1.out.alloc (.cells #[.slice ca n ck] 53))
 have HC2 := hid (BoxN.new w1 #[.slice ca n ck] 53)
 have hz2 : (w1.alloc (.cells #[.slice ca n ck] 53)).heap.size = w1.heap.size + 1 := by simp
 clear x0 x1 x2 hb1 hN1 k1 HRW
 have x2 := HX1.out.cell 2 rfl
 have o1 := HO1.out.cell 1 rfl
 go_wp2_with fail
 generalize w1.alloc (.cells #[.slice ca n ck] 53) = W2 at *
 have hz2a := Nat.le_of_eq hz2
 have hz2b := Nat.le_of_eq hz2.symm
 clear hz2 x2 o1 k1'
 with_reducible refine (HSS.out b1 w1.heap.size W2 HB2.out HN2.out (by omega) (HC2.out.cell 0 rfl) (by omega) (by omega)).mono ?_
 rintro e w3 ⟨rfl, hN3, hr3⟩
 have HB3 := hid (HB2.out.trans (hr3.below (B' := w.heap.size) (by omega) (by omega)))
 have HX3 := hid (HX2.out.roll hr3 (by omega) (by omega))
 have HY3 := hid (HY2.out.roll hr3 (by omega) (by omega))
 have hz3 := hr3.size
 have HRD3 : Hid (Rd w3 w3.heap.size (.slice (some ⟨b1, 0, none⟩) F.length n) F.length (natF F)) := hid ⟨_, _, rfl, by omega, by unfold maxLen; omega, fun _ => ⟨b1, 0, rfl, World.rowIs.lt hN3, fun i hi => by rw [Nat.zero_add]; exact World.rowIs.cell hN3 hi⟩⟩
 have HPK3 := hid (HPK.out _ F w3 HB3.out HF1.out (by omega) HRD3.out)
 rw [hFl] at HPK3
 clear hN3 hr3 HRD3 HPK HSS
 have x0 := HX3.out.cell 0 rfl
 have x1 := HX3.out.cell 1 rfl
 have x2 := HX3.out.cell 2 rfl
 go_wp2_with fail
 with_reducible refine HPK3.out.mono ?_
 rintro e w7 ⟨y, rfl, hco7, hb7⟩
 have HB7 := hid (HB3.out.trans (hb7.mono (by omega)))
 have HCO7 := hid hco7
 have hyy := HY3.out.below hb7 HY3.out.lt
 have y0 := hyy.cell 0 rfl
 have y1 := hyy.cell 1 rfl
 have y2 := hyy.cell 2 rfl
 have f0 := hyy.frozen 0
 have f1 := hyy.frozen 1
 have f2 := hyy.frozen 2
 obtain ⟨L7, hL7⟩ := hco7.owns
 rw [selL_len, HXL.out] at hL7
 obtain ⟨ya, yc, rfl⟩ := own_slice hL7
 clear hb7 hco7 hyy hL7 x0 x1 x2
 go_wp2
 refine bodyPost_ret (v := .agg #[.int .i64 id, .string nm, .slice ya L yc]) (by simp [results, Tryz.results251, go_sem, y0, y1, y2]) rfl ⟨_, rfl, ?_, by have := HB7.out; repeat' (first | (with_reducible exact Below.refl _ _) | (with_reducible assumption) | (with_reducible refine below_drewN ?_) | (with_reducible refine Below.alloc ?_ ?_ _) | (with_reducible refine Below.drew ?_) | (with_reducible refine Below.setCell ?_ ?_ _) | (with_reducible refine Below.trans ?_ (Below.mono (by with_reducible assumption) ?_)) | go_size)⟩
 exact (((HCO7.out.setCell (p := ⟨w.heap.size + 2, 0, none⟩) (by show w.heap.size + 2 < w3.heap.size; omega) _).setCell (p := ⟨w.heap.size + 2, 1, none⟩) (by show w.heap.size + 2 < w3.heap.size; omega) _).setCell (p := ⟨w.heap.size + 2, 2, none⟩) (by show w.heap.size + 2 < w3.heap.size; omega) _).lower (by omega)
end Go.Proofs.YtaajpliifdlokaaGreatDoor
