/- The walk of PostingSizes, given its sanity check. -/
import Derived.Test.YtabemneoobbnaaaDoorNj
import Derived.Deep.Cut
import Derived.Deep.CutRange
import Derived.Deep.DeepCutAuto
namespace Go.Proofs.YtabemneoobbnaaaDoor
open Go.RowKit

theorem made_int_row (n : Nat) (h : n ≤ 1099511627776) (w : World) :
    (Instr.makeSlice 32 (.int .i64 (n : Int)) (.int .i64 (n : Int))).run Tryd.prog w = .ok (.slice (some ⟨w.heap.size, 0, none⟩) n n) (w.alloc (.cells (madeCells #[.int .i64 0] n) 3)) :=
  run_make_row' (P := Tryd.prog) 32 3 (.int .i64 0) 8 Tryd.underlying32 info_int' rfl .i64 .i64 n (by omega) (by omega) w
theorem InN.rdn {w : World} {S : Nat → Prop} {v : Value} {xs : List Nat} {B : Nat} (h : InN w S v xs) (hS : ∀ b, S b → b < B) : Rd w B v xs.length (natF xs) := InK.rd h hS
theorem ents_sizes {ts : List Ta} (h : ListV ts) : ∀ i, i < (sizeZ (indexOf (cvsL ts)).ents).length → 0 ≤ (sizeZ (indexOf (cvsL ts)).ents).getD i 0 ∧ (sizeZ (indexOf (cvsL ts)).ents).getD i 0 ≤ 4096 := by
  intro i hi
  have hi' : i < (indexOf (cvsL ts)).ents.length := by simpa [sizeZ] using hi
  rw [sizeZ_at hi']
  have hm : (indexOf (cvsL ts)).ents.getD i ((0, 0), 0) ∈ entsOf (cvsL ts) := getD_mem hi' _
  obtain ⟨c, hc, e⟩ := List.mem_map.1 hm
  rw [← e]
  have := cvs_len h c hc
  simp only
  omega
theorem ents_small {ts : List Ta} (h : ListV ts) : (indexOf (cvsL ts)).ents.length ≤ 65536 := by
  show (entsOf (cvsL ts)).length ≤ _
  rw [ents_len, cvsL, cvsK_len]
  have := refs_le (ts := ts) fun t ht => (h.2.1 t ht).2.2.2.1
  have := h.1
  omega

/-- how often a number has been met in the parts before the q-th -/
def doneC (L M P : List Nat) (q j : Nat) : Nat := ([L, M, P].take q).flatten.count j
def partX (L M P : List Nat) (q : Nat) : List Nat := [L, M, P].getD q []
theorem doneC_zero (L M P : List Nat) (j : Nat) : doneC L M P 0 j = 0 := by simp [doneC]
theorem doneC_succ (L M P : List Nat) {q : Nat} (h : q < 3) (j : Nat) : doneC L M P (q + 1) j = doneC L M P q j + (partX L M P q).count j := by
  unfold doneC partX
  rcases (show q = 0 ∨ q = 1 ∨ q = 2 by omega) with rfl | rfl | rfl <;> simp [Nat.add_assoc]
theorem doneC_three (L M P : List Nat) (j : Nat) : doneC L M P 3 j = L.count j + M.count j + P.count j := by
  simp [doneC, Nat.add_assoc]
theorem doneC_le {L M P : List Nat} {n : Nat} (h1 : L.length ≤ n) (h2 : M.length ≤ n) (h3 : P.length ≤ n) {q : Nat} (hq : q ≤ 3) (j : Nat) : doneC L M P q j ≤ 3 * n := by
  have a1 := List.count_le_length (a := j) (l := L)
  have a2 := List.count_le_length (a := j) (l := M)
  have a3 := List.count_le_length (a := j) (l := P)
  rcases (show q = 0 ∨ q = 1 ∨ q = 2 ∨ q = 3 by omega) with rfl | rfl | rfl | rfl <;> simp [doneC] <;> omega
/-- is a number on a list -/
def inB (xs : List Nat) (i : Nat) : Bool := decide (i ∈ xs)
theorem inB_zero (xs : List Nat) (i : Nat) : inB (xs.take 0) i = false := by simp [inB]
theorem inB_succ (xs : List Nat) {k : Nat} (h : k < xs.length) (i : Nat) : inB (xs.take (k + 1)) i = (inB (xs.take k) i || decide (xs.getD k 0 = i)) := by
  unfold inB
  rw [List.take_succ_eq_append_getElem h]
  have e : xs.getD k 0 = xs[k] := by simp [List.getD, h]
  rw [e, Bool.eq_iff_iff]
  simp only [Bool.or_eq_true, decide_eq_true_eq, List.mem_append, List.mem_singleton]
  constructor
  · rintro (h1 | h1)
    · exact .inl h1
    · exact .inr h1.symm
  · rintro (h1 | h1)
    · exact .inl h1
    · exact .inr h1.symm
theorem inB_all (xs : List Nat) (i : Nat) : inB (xs.take xs.length) i = decide (i ∈ xs) := by rw [List.take_length]; rfl
/-- what is known of a part -/
structure PartOk (wc : World) (pa : Option Addr) (pc n : Nat) (X : List Nat) : Prop where
  rd : Rd wc wc.heap.size (.slice pa X.length pc) X.length (natF X)
  lt : ∀ i, i < X.length → X.getD i 0 < n
  up : ∀ i, i + 1 < X.length → X.getD i 0 < X.getD (i + 1) 0
  le : X.length ≤ n

set_option maxRecDepth 100000 in
set_option maxHeartbeats 4000000 in
theorem law18_sizes (HSANE : ∀ W, Tabs W → Calls Tryd.prog 4 #[] W (Ret W (.bool true))) (sa : Option Addr) (sn sc a b : Nat) (ha : a < 256) (hb : b < 256) (w : World) (hs : RdU w w.heap.size sa sn sc) (hT : Tabs w) :
    Calls Tryd.prog 3 #[.slice sa sn sc, .int .u8 (a : Int), .int .u8 (b : Int)] w (Ret w (.bool true)) := by
  have HS := hid hs
  have HT := hid hT
  have HSN := hid HSANE
  clear hs hT HSANE
  go_enter Tryd.func3, Tryd.ntmps3
  generalize hLA : Code.loop _ = LA
  generalize hLB : Code.loop _ = LB
  go_wp2_with fail
  with_reducible refine (HSN.out _ HT.out).mono ?_
  rintro e w1 ⟨rfl, hb1⟩
  have HB1 := hid hb1
  have hu1 : RdU w1 w1.heap.size sa sn sc := by
    obtain ⟨h1, h2, h3⟩ := HS.out
    refine ⟨h1, h2, fun hp => ?_⟩
    obtain ⟨b, o, e, hlt, hc⟩ := h3 hp
    exact ⟨b, o, e, by have := hb1.size; omega, fun i hi => by
      obtain ⟨x, hx, hcx⟩ := hc i hi
      exact ⟨x, hx, (hb1.cell (p := ⟨b, o + i, none⟩) hlt).trans hcx⟩⟩
  have HU1 := hid hu1
  have hz1 := hb1.size
  clear hb1 hu1
  go_wp2_with fail
  with_reducible refine (mill_New sa sn sc _ HU1.out).mono ?_
  rintro e w2 ⟨rfl, hd2, hb2⟩
  have HD2 := hid hd2
  have HB2 := hid (HB1.out.trans (hb2.mono HB1.out.size))
  clear hd2 hb2 HU1
  generalize hgg : w1.heap.size = g at *
  clear hgg
  go_wp2_with fail
  with_reducible refine (dice_Index g w w2 HD2.out HT.out HB2.out hz1).mono ?_
  rintro e w3 ⟨ts, ev, vv, lv, rfl, hok, hrx, hd3, hr3⟩
  have hlv := listV_of hok (by omega) (by omega) (by omega)
  have HSZ := hid (ents_sizes hlv)
  have hsm := ents_small hlv
  have HB3 := hid (HB2.out.trans (hr3.below (B' := w.heap.size) (by omega) (HB2.out.size)))
  have HE3 := hid (hrx.ents.more (S' := (· < w3.heap.size)) fun b hb => hb.2)
  obtain ⟨ea, ec, rfl, -⟩ := hrx.ents
  obtain ⟨va', vc', rfl, -⟩ := hrx.vals
  obtain ⟨lf, ⟨la, lc, rfl, -⟩, -⟩ := hrx.lists
  generalize (indexOf (cvsL ts)).vals.length = n2 at *
  generalize (indexOf (cvsL ts)).lists.length = n3 at *
  generalize (indexOf (cvsL ts)).ents = es at *
  have HPS := hid (fun low high W (hW : Below w3.heap.size w3 W) => posting_Sizes _ va' la n2 vc' n3 lc es low high w3.heap.size W (HE3.out.keep fun p hp => hW.cell hp) hW.size hsm)
  clear hok hrx hd3 hr3 hlv
  generalize hne : es.length = n at *
  have HNE := hid hne
  clear hne
  have HX4 := hid (BoxN.new w3 #[.slice ea n ec, .slice va' n2 vc', .slice la n3 lc] 30)
  have HB4 := hid ((Below.refl w3.heap.size w3).alloc (Nat.le_refl _) (.cells #[.slice ea n ec, .slice va' n2 vc', .slice la n3 lc] 30))
  have hz4 : (w3.alloc (.cells #[.slice ea n ec, .slice va' n2 vc', .slice la n3 lc] 30)).heap.size = w3.heap.size + 1 := by simp
  obtain ⟨x, hx⟩ : ∃ x : Nat, x = a % 8 := ⟨_, rfl⟩
  obtain ⟨y, hy⟩ : ∃ y : Nat, y = b % 8 := ⟨_, rfl⟩
  have hx8 : x < 8 := by omega
  have hy8 : y < 8 := by omega
  have hxa : (a : Int) % 8 = (x : Int) := by omega
  have hyb : (b : Int) % 8 = (y : Int) := by omega
  clear hx hy
  have HSPLIT : ∃ lo hi : Nat, lo ≤ hi ∧ hi < 8 ∧ ((lo = x ∧ hi = y ∧ ¬ (y : Int) < x) ∨ (lo = y ∧ hi = x ∧ (y : Int) < x)) := by
    by_cases h : (y : Int) < x
    · exact ⟨y, x, by omega, by omega, .inr ⟨rfl, rfl, h⟩⟩
    · exact ⟨x, y, by omega, by omega, .inl ⟨rfl, rfl, h⟩⟩
  obtain ⟨lo, hi, hlh, hhi, hcase⟩ := HSPLIT
  have HDIV := hid (fun i (h : i < (sizeZ es).length) => sizes_divide HSZ.out (low := (lo : Int)) (high := (hi : Int)) (by omega) h)
  have hzl : (sizeZ es).length = n := by have := HNE.out; simp [sizeZ]; exact this
  have HLT := hid (fun low high i (h : i < (sizesL (sizeZ es) low high).length) => (show (sizesL (sizeZ es) low high).getD i 0 < n from hzl ▸ sizes_lt h))
  have HUP := hid (fun low high i (h : i + 1 < (sizesL (sizeZ es) low high).length) => sizes_up h)
  have HLE := hid (fun low high => (show (sizesL (sizeZ es) low high).length ≤ n from hzl ▸ sizes_len (sizeZ es) low high))
  have HMEM := hid (fun i => @sizes_mem (sizeZ es) lo hi i)
  rw [hzl] at HDIV HMEM
  clear hzl
  have HP1 := hid (fun W hW => HPS.out 0 ((lo : Int) - 1) W hW)
  have HP2 := hid (fun W hW => HPS.out (lo : Int) (hi : Int) W hW)
  have HP3 := hid (fun W hW => HPS.out ((hi : Int) + 1) 4096 W hW)
  have HLT1 := hid (HLT.out 0 ((lo : Int) - 1))
  have HLT2 := hid (HLT.out (lo : Int) (hi : Int))
  have HLT3 := hid (HLT.out ((hi : Int) + 1) 4096)
  have HUP1 := hid (HUP.out 0 ((lo : Int) - 1))
  have HUP2 := hid (HUP.out (lo : Int) (hi : Int))
  have HUP3 := hid (HUP.out ((hi : Int) + 1) 4096)
  have hle1 := HLE.out 0 ((lo : Int) - 1)
  have hle2 := HLE.out (lo : Int) (hi : Int)
  have hle3 := HLE.out ((hi : Int) + 1) 4096
  clear HLT HUP HLE
  generalize sizesL (sizeZ es) 0 ((lo : Int) - 1) = L1 at *
  generalize sizesL (sizeZ es) (lo : Int) (hi : Int) = M1 at *
  generalize sizesL (sizeZ es) ((hi : Int) + 1) 4096 = P1 at *
  have hw1 : IntKind.i64.wrap ((lo : Int) - 1) = (lo : Int) - 1 := IntWalk.i64_in _ (by omega)
  have hw2 : IntKind.i64.wrap ((hi : Int) + 1) = (hi : Int) + 1 := IntWalk.i64_in _ (by omega)
  have HB8 : Hid (Below w3.heap.size w3 (w3.alloc (.cells #[.slice ea n ec, .slice va' n2 vc', .slice la n3 lc] 30))) := HB4
  rcases hcase with ⟨rfl, rfl, hsw⟩ | ⟨rfl, rfl, hsw⟩
  all_goals
    go_upto_region 8 with fail
    rw [hxa, hyb]
    clear hxa hyb hsw
    go_cut [11, 12, 13] (fun l m p wc => ∃ (l1 : Option Addr) (l2 : Nat) (m1 : Option Addr) (m2 : Nat) (p1 : Option Addr) (p2 : Nat), l = .slice l1 L1.length l2 ∧ m = .slice m1 M1.length m2 ∧ p = .slice p1 P1.length p2 ∧ Hid (Rd wc wc.heap.size (.slice l1 L1.length l2) L1.length (natF L1) ∧ Rd wc wc.heap.size (.slice m1 M1.length m2) M1.length (natF M1) ∧ Rd wc wc.heap.size (.slice p1 P1.length p2) P1.length (natF P1) ∧ Below (w3.heap.size + 1) (w3.alloc (.cells #[.slice ea n ec, .slice va' n2 vc', .slice la n3 lc] 30)) wc))
    case first =>
      go_region_held3 (fun w' => w'.cell? ⟨w3.heap.size, 0, none⟩ = some (.slice ea n ec) ∧ w'.cell? ⟨w3.heap.size, 1, none⟩ = some (.slice va' n2 vc') ∧ w'.cell? ⟨w3.heap.size, 2, none⟩ = some (.slice la n3 lc))
        (first | exact ⟨l0, l1, l2⟩ | exact ⟨m0, m1, m2⟩ | exact ⟨p0, p1, p2⟩ | go_keep)
        (first
          | (go_at_call 7; (((with_reducible refine (HP1.out _ (by have := HB4.out; have h8 := HB8.out; repeat' (first | (with_reducible exact Below.refl _ _) | (with_reducible assumption) | (with_reducible refine below_drewN ?_) | (with_reducible refine Below.alloc ?_ ?_ _) | (with_reducible refine Below.drew ?_) | (with_reducible refine Below.setCell ?_ ?_ _) | (with_reducible refine Below.trans ?_ (Below.mono (by with_reducible assumption) ?_)) | go_size))).mono ?_); rintro e wl ⟨al, cl, rfl, hnl, hbl⟩; have l0 := cell_later hbl (a := ⟨w3.heap.size, 0, none⟩) (v := .slice ea n ec) (by go_cell); have l1 := cell_later hbl (a := ⟨w3.heap.size, 1, none⟩) (v := .slice va' n2 vc') (by go_cell); have l2 := cell_later hbl (a := ⟨w3.heap.size, 2, none⟩) (v := .slice la n3 lc) (by go_cell); have hzl := hbl.size; (try simp at hzl)))) 
          | (go_at_call 7; (((with_reducible refine (HP2.out _ (by have := HB4.out; have h8 := HB8.out; repeat' (first | (with_reducible exact Below.refl _ _) | (with_reducible assumption) | (with_reducible refine below_drewN ?_) | (with_reducible refine Below.alloc ?_ ?_ _) | (with_reducible refine Below.drew ?_) | (with_reducible refine Below.setCell ?_ ?_ _) | (with_reducible refine Below.trans ?_ (Below.mono (by with_reducible assumption) ?_)) | go_size))).mono ?_); rintro e wm ⟨am, cm, rfl, hnm, hbm⟩; have m0 := cell_later hbm (a := ⟨w3.heap.size, 0, none⟩) (v := .slice ea n ec) (by go_cell); have m1 := cell_later hbm (a := ⟨w3.heap.size, 1, none⟩) (v := .slice va' n2 vc') (by go_cell); have m2 := cell_later hbm (a := ⟨w3.heap.size, 2, none⟩) (v := .slice la n3 lc) (by go_cell); have hzm := hbm.size; (try simp at hzm)))) 
          | (go_at_call 7; (((with_reducible refine (HP3.out _ (by have := HB4.out; have h8 := HB8.out; repeat' (first | (with_reducible exact Below.refl _ _) | (with_reducible assumption) | (with_reducible refine below_drewN ?_) | (with_reducible refine Below.alloc ?_ ?_ _) | (with_reducible refine Below.drew ?_) | (with_reducible refine Below.setCell ?_ ?_ _) | (with_reducible refine Below.trans ?_ (Below.mono (by with_reducible assumption) ?_)) | go_size))).mono ?_); rintro e wp ⟨ap, cp, rfl, hnp, hbp⟩; have p0 := cell_later hbp (a := ⟨w3.heap.size, 0, none⟩) (v := .slice ea n ec) (by go_cell); have p1 := cell_later hbp (a := ⟨w3.heap.size, 1, none⟩) (v := .slice va' n2 vc') (by go_cell); have p2 := cell_later hbp (a := ⟨w3.heap.size, 2, none⟩) (v := .slice la n3 lc) (by go_cell); have hzp := hbp.size; (try simp at hzp)))) )
      all_goals
        go_wp2_with fail
        go_meet
        refine ⟨al, cl, am, cm, ap, cp, rfl, rfl, rfl, hid ⟨?_, ?_, ?_, ?_⟩⟩
        · exact Rd.more (Rd.below (hnl.rdn fun b hb => hb.2) (C := wl.heap.size) (by repeat' (first | (with_reducible exact Below.refl _ _) | (with_reducible assumption) | (with_reducible refine below_drewN ?_) | (with_reducible refine Below.alloc ?_ ?_ _) | (with_reducible refine Below.drew ?_) | (with_reducible refine Below.setCell ?_ ?_ _) | (with_reducible refine Below.trans ?_ (Below.mono (by with_reducible assumption) ?_)) | go_size)) (Nat.le_refl _)) (by go_size)
        · exact Rd.more (Rd.below (hnm.rdn fun b hb => hb.2) (C := wm.heap.size) (by repeat' (first | (with_reducible exact Below.refl _ _) | (with_reducible assumption) | (with_reducible refine below_drewN ?_) | (with_reducible refine Below.alloc ?_ ?_ _) | (with_reducible refine Below.drew ?_) | (with_reducible refine Below.setCell ?_ ?_ _) | (with_reducible refine Below.trans ?_ (Below.mono (by with_reducible assumption) ?_)) | go_size)) (Nat.le_refl _)) (by go_size)
        · exact Rd.more (Rd.below (hnp.rdn fun b hb => hb.2) (C := wp.heap.size) (by repeat' (first | (with_reducible exact Below.refl _ _) | (with_reducible assumption) | (with_reducible refine below_drewN ?_) | (with_reducible refine Below.alloc ?_ ?_ _) | (with_reducible refine Below.drew ?_) | (with_reducible refine Below.setCell ?_ ?_ _) | (with_reducible refine Below.trans ?_ (Below.mono (by with_reducible assumption) ?_)) | go_size)) (Nat.le_refl _)) (by go_size)
        · repeat' (first | (with_reducible exact Below.refl _ _) | (with_reducible assumption) | (with_reducible refine below_drewN ?_) | (with_reducible refine Below.alloc ?_ ?_ _) | (with_reducible refine Below.drew ?_) | (with_reducible refine Below.setCell ?_ ?_ _) | (with_reducible refine Below.trans ?_ (Below.mono (by with_reducible assumption) ?_)) | go_size)
    case rest =>
      obtain ⟨l1, l2, m1, m2, p1, p2, rfl, rfl, rfl, HCUT⟩ := hcut
      have HBC : Hid (Below w3.heap.size w3 wc) := hid (HB4.out.trans (HCUT.out.2.2.2.mono (by omega)))
      have hxc := HX4.out.below HCUT.out.2.2.2 (by omega)
      have HXC := hid hxc
      have HOK1 : Hid (PartOk wc l1 l2 n L1) := hid ⟨HCUT.out.1, HLT1.out, HUP1.out, hle1⟩
      have HOK2 : Hid (PartOk wc m1 m2 n M1) := hid ⟨HCUT.out.2.1, HLT2.out, HUP2.out, hle2⟩
      have HOK3 : Hid (PartOk wc p1 p2 n P1) := hid ⟨HCUT.out.2.2.1, HLT3.out, HUP3.out, hle3⟩
      have HPART : Hid (∀ q, q < 3 → ∃ (pa : Option Addr) (pc : Nat), (#[.slice l1 L1.length l2, .slice m1 M1.length m2, .slice p1 P1.length p2] : Array Value)[q]? = some (.slice pa (partX L1 M1 P1 q).length pc) ∧ PartOk wc pa pc n (partX L1 M1 P1 q)) := hid (fun q hq => by
        rcases (show q = 0 ∨ q = 1 ∨ q = 2 by omega) with rfl | rfl | rfl
        · exact ⟨_, _, rfl, HOK1.out⟩
        · exact ⟨_, _, rfl, HOK2.out⟩
        · exact ⟨_, _, rfl, HOK3.out⟩)
      have HDL := hid (fun q (hq : q ≤ 3) j => doneC_le hle1 hle2 hle3 hq j)
      have HDS := hid (fun q (hq : q < 3) j => doneC_succ L1 M1 P1 hq j)
      have HD3 := hid (fun i (h : i < n) => (doneC_three L1 M1 P1 i).trans (HDIV.out i h))
      have HEC := hid (HE3.out.keep fun p hp => HBC.out.cell (p := p) hp)
      have hmk := made_int_row n (by omega)
      have x0 := HXC.out.cell 0 rfl
      have hz3c := HBC.out.size
      have hxcz := HXC.out.lt
      clear hxc HX4 HB4 HB8 HP1 HP2 HP3 HLT1 HLT2 HLT3 HUP1 HUP2 HUP3 HOK1 HOK3 hw1 hw2
      have HPB := hid (BoxN.new (wc.alloc (.cells (madeCells #[.int .i64 0] n) 3)) #[.slice l1 L1.length l2, .slice m1 M1.length m2, .slice p1 P1.length p2] 32)
      rw [World.size_alloc] at HPB
      have HRO := hid ((World.rowIs_made wc (.int .i64 0) n 3).alloc (.cells #[.slice l1 L1.length l2, .slice m1 M1.length m2, .slice p1 P1.length p2] 32))
      have HB5 : Hid (Below wc.heap.size wc ((wc.alloc (.cells (madeCells #[.int .i64 0] n) 3)).alloc (.cells #[.slice l1 L1.length l2, .slice m1 M1.length m2, .slice p1 P1.length p2] 32))) := hid (by have := Below.refl wc.heap.size wc; repeat' (first | (with_reducible exact Below.refl _ _) | (with_reducible assumption) | (with_reducible refine below_drewN ?_) | (with_reducible refine Below.alloc ?_ ?_ _) | (with_reducible refine Below.drew ?_) | (with_reducible refine Below.setCell ?_ ?_ _) | (with_reducible refine Below.trans ?_ (Below.mono (by with_reducible assumption) ?_)) | go_size))
      go_wp2_with fail
      clear hmk x0
      generalize (wc.alloc (.cells (madeCells #[.int .i64 0] n) 3)).alloc (.cells #[.slice l1 L1.length l2, .slice m1 M1.length m2, .slice p1 P1.length p2] 32) = W5 at *
      subst hLA
      go_loopg [62] 3 (fun N i wr => ∃ q : Nat, q + N = 3 ∧ i = .int .i64 (q : Int) ∧ Hid (Below wc.heap.size wc wr ∧ BoxN wr (wc.heap.size + 1) 32 #[.slice l1 L1.length l2, .slice m1 M1.length m2, .slice p1 P1.length p2] ∧ wr.rowIs wc.heap.size 3 n (fun j => .int .i64 ((doneC L1 M1 P1 q j : Nat) : Int))))
      case atStart => exact ⟨0, by omega, rfl, hid ⟨HB5.out, HPB.out, HRO.out.congr fun j _ => by rw [doneC_zero]; rfl⟩⟩
      case round =>
        obtain ⟨q, hq, rfl, HST⟩ := hrel
        by_cases hpq : 0 < gk
        · obtain ⟨pa, pc, hpc, hpk⟩ := HPART.out q (by omega)
          have HPK := hid hpk
          have v0 := HST.out.2.1.cell q hpc
          have HDL' := hid (HDL.out q (by omega))
          have HDS' := hid (HDS.out q (by omega))
          have hX := hpk.le
          clear hpc hpk
          generalize partX L1 M1 P1 q = X at *
          have HST0 := HST
          obtain ⟨wo, rfl⟩ : ∃ wo, wo = wr := ⟨wr, rfl⟩
          obtain ⟨ko, rfl⟩ : ∃ ko, ko = gk := ⟨gk, rfl⟩
          generalize hxl : X.length = xl at *
          have HXL := hid hxl
          clear hxl
          generalize hLC : Code.loop _ = LC
          go_wp2_with fail
          clear v0
          subst hLC
          go_loopg [68] xl (fun N i wr => ∃ k : Nat, k + N = xl ∧ i = .int .i64 (k : Int) ∧ Hid (Below wc.heap.size wc wr ∧ BoxN wr (wc.heap.size + 1) 32 #[.slice l1 L1.length l2, .slice m1 M1.length m2, .slice p1 P1.length p2] ∧ wr.rowIs wc.heap.size 3 n (fun j => .int .i64 ((doneC L1 M1 P1 q j + (X.take k).count j : Nat) : Int))))
          case atStart => exact ⟨0, by omega, rfl, hid ⟨HST0.out.1, HST0.out.2.1, HST0.out.2.2.congr fun j _ => by simp⟩⟩
          case round =>
            obtain ⟨k, hk, rfl, HSK⟩ := hrel
            by_cases hpk : 0 < gk
            · obtain ⟨pa', pc', epa, -, hpm, hpr⟩ := HPK.out.rd
              rw [HXL.out] at epa hpr
              obtain ⟨rfl, -, rfl⟩ := Value.slice.inj epa
              obtain ⟨b5, o5, rfl, hb5, hpc5⟩ := hpr (by omega)
              have hlt := HPK.out.lt k (by have := HXL.out; omega)
              have e1 : wr.cell? ⟨b5, o5 + k, none⟩ = some (.int .i64 ((X.getD k 0 : Nat) : Int)) := (HSK.out.1.cell (p := ⟨b5, o5 + k, none⟩) hb5).trans (hpc5 k (by omega))
              have r1 := HSK.out.2.2.cell hlt
              have fr := HSK.out.2.2.frozen (X.getD k 0)
              have HCT := hid (fun j => count_take X (k := k) (by have := HXL.out; omega) j)
              have hcl : doneC L1 M1 P1 q (X.getD k 0) + (X.take k).count (X.getD k 0) ≤ 1000000 := by
                have h1 := HDL'.out (X.getD k 0)
                have h2 := List.count_le_length (a := X.getD k 0) (l := X.take k)
                have h3 : (X.take k).length ≤ k := List.length_take_le _ _
                omega
              have HPM := hid hpm
              clear epa hpr hpm
              generalize hcc : doneC L1 M1 P1 q (X.getD k 0) + (X.take k).count (X.getD k 0) = cc at *
              have hpv : ∀ pp, k = pp + 1 → wr.cell? ⟨b5, o5 + pp, none⟩ = some (.int .i64 ((X.getD pp 0 : Nat) : Int)) ∧ X.getD pp 0 < X.getD k 0 := fun pp e => by
                subst e
                exact ⟨(HSK.out.1.cell (p := ⟨b5, o5 + pp, none⟩) hb5).trans (hpc5 pp (by omega)), HPK.out.up pp (by have := HXL.out; omega)⟩
              have HPV := hid hpv
              clear hpc5 hpv
              generalize X.getD k 0 = x at *
              have HCC : Hid (doneC L1 M1 P1 q x + (X.take k).count x = cc) := hid hcc
              clear hcc
              have hd0 : decide ((x : Int) < 0) = false := decide_eq_false (by omega)
              have hd1 : decide (n ≤ x) = false := decide_eq_false (by omega)
              have hd2 : decide ((n : Int) ≤ (x : Int)) = false := decide_eq_false (by omega)
              have hxi : (x : Int) < (n : Int) := by omega
              by_cases hk0 : k = 0
              · subst hk0
                rw [show (((0 : Nat)) : Int) = 0 from rfl]
                simp only [Nat.add_zero] at e1
                have hnew : ∀ j, (if j = x then Value.int .i64 ((cc : Int) + 1) else .int .i64 ((doneC L1 M1 P1 q j + (X.take 0).count j : Nat) : Int)) = .int .i64 ((doneC L1 M1 P1 q j + (X.take (0 + 1)).count j : Nat) : Int) := fun j => by
                  rw [HCT.out j]
                  by_cases e : j = x
                  · subst e
                    rw [if_pos rfl, if_pos rfl, ← Nat.add_assoc, HCC.out]
                    rfl
                  · rw [if_neg e, if_neg (fun h => e h.symm)]
                    rfl
                have HNW := hid hnew
                clear hnew
                go_wp2
                go_roundg (gk - 1)
                case rel => exact ⟨0 + 1, by omega, by go_num, hid ⟨by have := HSK.out.1; repeat' (first | (with_reducible exact Below.refl _ _) | (with_reducible assumption) | (with_reducible refine below_drewN ?_) | (with_reducible refine Below.alloc ?_ ?_ _) | (with_reducible refine Below.drew ?_) | (with_reducible refine Below.setCell ?_ ?_ _) | (with_reducible refine Below.trans ?_ (Below.mono (by with_reducible assumption) ?_)) | go_size), HSK.out.2.1.other (p := ⟨wc.heap.size, x, none⟩) (by show wc.heap.size ≠ wc.heap.size + 1; omega) _, (HSK.out.2.2.set x (.int .i64 ((cc : Int) + 1))).congr fun j _ => HNW.out j⟩⟩
                case measure => omega
              · obtain ⟨pp, rfl⟩ : ∃ pp, k = pp + 1 := ⟨k - 1, by omega⟩
                obtain ⟨e0, hup⟩ := HPV.out pp rfl
                generalize X.getD pp 0 = y' at *
                have hd3 : decide (x ≤ y') = false := decide_eq_false (by omega)
                have hd4 : decide ((x : Int) ≤ (y' : Int)) = false := decide_eq_false (by omega)
                have hp1 : (0 : Int) < (pp : Int) + 1 := by omega
                have hp2 : decide ((0 : Int) < (pp : Int) + 1) = true := decide_eq_true hp1
                rw [show (((pp + 1 : Nat)) : Int) = (pp : Int) + 1 from by omega]
                clear hk0
                have hnew : ∀ j, (if j = x then Value.int .i64 ((cc : Int) + 1) else .int .i64 ((doneC L1 M1 P1 q j + (X.take (pp + 1)).count j : Nat) : Int)) = .int .i64 ((doneC L1 M1 P1 q j + (X.take ((pp + 1) + 1)).count j : Nat) : Int) := fun j => by
                  rw [HCT.out j]
                  by_cases e : j = x
                  · subst e
                    rw [if_pos rfl, if_pos rfl, ← Nat.add_assoc, HCC.out]
                    rfl
                  · rw [if_neg e, if_neg (fun h => e h.symm)]
                    rfl
                have HNW := hid hnew
                clear hnew
                go_wp2
                go_roundg (gk - 1)
                case rel => exact ⟨(pp + 1) + 1, by omega, by go_num, hid ⟨by have := HSK.out.1; repeat' (first | (with_reducible exact Below.refl _ _) | (with_reducible assumption) | (with_reducible refine below_drewN ?_) | (with_reducible refine Below.alloc ?_ ?_ _) | (with_reducible refine Below.drew ?_) | (with_reducible refine Below.setCell ?_ ?_ _) | (with_reducible refine Below.trans ?_ (Below.mono (by with_reducible assumption) ?_)) | go_size), HSK.out.2.1.other (p := ⟨wc.heap.size, x, none⟩) (by show wc.heap.size ≠ wc.heap.size + 1; omega) _, (HSK.out.2.2.set x (.int .i64 ((cc : Int) + 1))).congr fun j _ => HNW.out j⟩⟩
                case measure => omega
            · obtain rfl : k = xl := by omega
              go_wp2_with fail
              go_roundg (ko - 1)
              case rel => exact ⟨q + 1, by omega, by go_num, hid ⟨HSK.out.1, HSK.out.2.1, HSK.out.2.2.congr fun j _ => by rw [HDS'.out, ← HXL.out, List.take_length]⟩⟩
              case measure => omega
        · obtain rfl : q = 3 := by omega
          have HROW : Hid (wr.rowIs wc.heap.size 3 n (fun j => .int .i64 ((doneC L1 M1 P1 3 j : Nat) : Int))) := hid HST.out.2.2
          have HWW := hid HST.out.1
          clear HST HPART HDL HDS HPB HRO
          obtain ⟨m0', mc', epm, -, hpm, hmr⟩ := HOK2.out.rd
          obtain ⟨rfl, -, rfl⟩ := Value.slice.inj epm
          have HMR := hid hmr
          clear epm hpm hmr
          generalize hml : M1.length = ml at *
          have HML := hid hml
          clear hml
          go_wp2_with fail
          subst hLB
          obtain ⟨wp, rfl⟩ : ∃ wp, wp = wr := ⟨wr, rfl⟩
          go_loopg [104] n (fun N i wr => ∃ q : Nat, q + N = n ∧ i = .int .i64 (q : Int) ∧ wr = wp)
          case atStart => exact ⟨0, by omega, rfl, rfl⟩
          case round =>
            obtain ⟨q, hq, rfl, rfl⟩ := hrel
            by_cases hpq : 0 < gk
            · have r1 := HROW.out.cell (i := q) (by omega)
              rw [HD3.out q (by omega)] at r1
              obtain ⟨ea', ec', eq6, -, -, hr6⟩ := HEC.out
              obtain ⟨rfl, -, rfl⟩ := Value.slice.inj eq6
              obtain ⟨b6, o6, rfl, hb6, hc6⟩ := hr6 (by omega)
              have hb6' : b6 < w3.heap.size := hb6
              have z2 : wr.cell? ⟨b6, o6 + q * 3 + 2, none⟩ = some (.int .i64 ((es.getD q ((0, 0), 0)).2 : Int)) := (HWW.out.cell (p := ⟨b6, o6 + q * 3 + 2, none⟩) (by show b6 < _; omega)).trans (hc6 q (by omega) 2 (by omega))
              have x0 := (HXC.out.below HWW.out hxcz).cell 0 rfl
              have hz := sizeZ_at (es := es) (i := q) (by have := HNE.out; omega)
              have hmem := HMEM.out q
              rw [hz] at hmem
              have HINS := hid (fun k h => @inB_succ M1 k h q)
              have HIN0 : Hid (inB (M1.take 0) q = false) := hid (inB_zero M1 q)
              have HINA : Hid (inB (M1.take ml) q = decide (q ∈ M1)) := hid (by rw [← HML.out]; exact inB_all M1 q)
              clear eq6 hr6 hc6 hz
              generalize (es.getD q ((0, 0), 0)).2 = z at *
              have HMEMQ := hid hmem
              clear hmem
              have hqn : (q : Int) < (n : Int) := by omega
              have hqn2 : q < n := by omega
              have X0 := hid x0
              have Z2 := hid z2
              rw [show ((1 : Nat) : Int) = 1 from rfl] at r1
              generalize hLC : Code.loop _ = LC
              go_wp2_with fail
              clear r1 x0 z2
              subst hLC
              obtain ⟨ko, rfl⟩ : ∃ ko, ko = gk := ⟨gk, rfl⟩
              obtain ⟨wv, rfl⟩ : ∃ wv, wv = wr := ⟨wr, rfl⟩
              go_loopg [21, 111] ml (fun N v i wr => ∃ k : Nat, k + N = ml ∧ i = .int .i64 (k : Int) ∧ v = .bool (inB (M1.take k) q) ∧ wr = wv)
              case atStart => exact ⟨0, by omega, rfl, by rw [HIN0.out], rfl⟩
              case round =>
                obtain ⟨k, hk, rfl, rfl, rfl⟩ := hrel
                by_cases hpk : 0 < gk
                · obtain ⟨b7, o7, rfl, hb7, hc7⟩ := HMR.out (by omega)
                  have y0 : wr.cell? ⟨b7, o7 + k, none⟩ = some (.int .i64 ((M1.getD k 0 : Nat) : Int)) := (HWW.out.cell (p := ⟨b7, o7 + k, none⟩) hb7).trans (hc7 k (by omega))
                  have HNX := hid (HINS.out k (by have := HML.out; omega))
                  clear hc7
                  generalize M1.getD k 0 = y' at *
                  generalize hfk : inB (M1.take k) q = fk at *
                  clear hfk
                  cases fk
                  · by_cases hyq : y' = q
                    · have HNX2 : Hid (inB (M1.take (k + 1)) q = true) := hid (by rw [HNX.out, decide_eq_true hyq]; rfl)
                      have g1 : ((y' : Int) == (q : Int)) = true := by simp; omega
                      have g2 : (y' == q) = true := by simp; omega
                      have g3 : decide ((y' : Int) = (q : Int)) = true := decide_eq_true (by omega)
                      clear hyq
                      go_wp2
                      go_roundg (gk - 1)
                      case rel => exact ⟨k + 1, by omega, by go_num, by rw [HNX2.out], rfl⟩
                      case measure => omega
                    · have HNX2 : Hid (inB (M1.take (k + 1)) q = false) := hid (by rw [HNX.out, decide_eq_false hyq]; rfl)
                      have g1 : ((y' : Int) == (q : Int)) = false := by simp; omega
                      have g2 : (y' == q) = false := by simp; omega
                      have g3 : decide ((y' : Int) = (q : Int)) = false := decide_eq_false (by omega)
                      clear hyq
                      go_wp2
                      go_roundg (gk - 1)
                      case rel => exact ⟨k + 1, by omega, by go_num, by rw [HNX2.out], rfl⟩
                      case measure => omega
                  · have HNX2 : Hid (inB (M1.take (k + 1)) q = true) := hid (by rw [HNX.out]; rfl)
                    go_wp2
                    go_roundg (gk - 1)
                    case rel => exact ⟨k + 1, by omega, by go_num, by rw [HNX2.out], rfl⟩
                    case measure => omega
                · obtain rfl : k = ml := by omega
                  rw [HINA.out]
                  have x0 := X0.out
                  have z2 := Z2.out
                  by_cases h1 : lo ≤ z
                  · by_cases h2 : z ≤ hi
                    · rw [decide_eq_true (HMEMQ.out.2 ⟨hqn2, by omega, by omega⟩)]
                      have g1 : decide (lo ≤ z) = true := decide_eq_true h1
                      have g2 : decide (z ≤ hi) = true := decide_eq_true h2
                      go_wp2
                      go_roundg (ko - 1)
                      case rel => exact ⟨q + 1, by omega, by go_num, rfl⟩
                      case measure => omega
                    · rw [decide_eq_false (fun h => h2 (by have := (HMEMQ.out.1 h).2.2; omega))]
                      have g1 : decide (lo ≤ z) = true := decide_eq_true h1
                      have g2 : decide (z ≤ hi) = false := decide_eq_false h2
                      go_wp2
                      go_roundg (ko - 1)
                      case rel => exact ⟨q + 1, by omega, by go_num, rfl⟩
                      case measure => omega
                  · rw [decide_eq_false (fun h => h1 (by have := (HMEMQ.out.1 h).2.1; omega))]
                    have g1 : decide (lo ≤ z) = false := decide_eq_false h1
                    go_wp2
                    go_roundg (ko - 1)
                    case rel => exact ⟨q + 1, by omega, by go_num, rfl⟩
                    case measure => omega
            · obtain rfl : q = n := by omega
              have hxw := HXC.out.below HWW.out hxcz
              have x0 := hxw.cell 0 rfl
              have x1 := hxw.cell 1 rfl
              have x2 := hxw.cell 2 rfl
              have HBW := hid (HBC.out.trans (HWW.out.mono hz3c))
              have HLAST := hid (HPS.out 5 4 wr HBW.out)
              rw [sizes_none (sizeZ es) (show (4 : Int) < 5 by omega)] at HLAST
              clear hxw
              go_wp2_with fail
              with_reducible refine HLAST.out.mono ?_
              rintro e w9 ⟨a9, c9, rfl, -, hb9⟩
              have HF9 : Hid (Below w.heap.size w w9) := hid (HB3.out.trans ((HBW.out.trans (hb9.mono HBW.out.size)).mono HB3.out.size))
              rw [List.length_nil]
              clear hb9
              go_wp2
              go_ret
              exact ⟨rfl, HF9.out⟩

end Go.Proofs.YtabemneoobbnaaaDoor
