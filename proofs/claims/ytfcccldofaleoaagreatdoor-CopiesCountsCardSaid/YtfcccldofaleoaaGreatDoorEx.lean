/- The walk of CopiesCounts. Printed by wip/tools/gen_ex.py. -/
import Derived.Test.YtfcccldofaleoaaGreatDoorEr
import Derived.Deep.DeepCutAuto
import Derived.Deep.CutRange
namespace Go.Proofs.YtfcccldofaleoaaGreatDoor
open Go.RowKit Go.Shelf

/-- bytes that lie in memory -/
structure Byts (w : World) (S : Nat → Prop) (a : Option Addr) (n c : Nat) (A : List Nat) : Prop where
  len : A.length = n
  cap : n ≤ c
  max : c ≤ maxLen
  lt : ∀ i, A.getD i 0 < 256
  at_ : 0 < n → ∃ b o, a = some ⟨b, o, none⟩ ∧ S b ∧ ∀ i, i < n → w.cell? ⟨b, o + i, none⟩ = some (.int .u8 ((A.getD i 0 : Nat) : Int))

/-- the world in which the first pass begins -/
structure Begun (w W : World) (sa : Option Addr) (sn sc : Nat) (sb : Option Addr) (tn tc : Nat) : Prop where
  bel : Below w.heap.size w W
  size : W.heap.size = w.heap.size + 6
  rowA : BoxN W (w.heap.size + 0) 30 #[.string ⟨#[110]⟩, .slice none 0 0, .string ⟨#[109]⟩, .slice none 0 0]
  rowB : BoxN W (w.heap.size + 1) 30 #[.string ⟨#[109]⟩, .slice none 0 0, .string ⟨#[110]⟩, .slice none 0 0]
  tabA : BoxN W (w.heap.size + 2) 24 #[.int .i64 1, .string ⟨#[]⟩, .slice (some ⟨w.heap.size, 0, none⟩) 2 2]
  tabB : BoxN W (w.heap.size + 3) 24 #[.int .i64 2, .string ⟨#[]⟩, .slice (some ⟨w.heap.size + 1, 0, none⟩) 2 2]
  cnts : BoxN W (w.heap.size + 4) 65 #[.int .i64 0, .int .i64 0, .int .i64 0, .int .i64 0, .int .i64 0, .int .i64 0, .int .i64 0, .int .i64 0, .int .i64 0, .int .i64 0, .int .i64 0, .int .i64 0, .int .i64 0, .int .i64 0, .int .i64 0, .int .i64 0, .int .i64 0, .int .i64 0]
  list : BoxN W (w.heap.size + 5) 63 #[.slice sa sn sc, .slice sb tn tc]
theorem begun (w : World) (sa : Option Addr) (sn sc : Nat) (sb : Option Addr) (tn tc : Nat) : Begun w ((((((w.alloc (.cells #[.string ⟨#[110]⟩, .slice none 0 0, .string ⟨#[109]⟩, .slice none 0 0] 30)).alloc (.cells #[.string ⟨#[109]⟩, .slice none 0 0, .string ⟨#[110]⟩, .slice none 0 0] 30)).alloc (.cells #[.int .i64 1, .string ⟨#[]⟩, .slice (some ⟨w.heap.size, 0, none⟩) 2 2] 24)).alloc (.cells #[.int .i64 2, .string ⟨#[]⟩, .slice (some ⟨w.heap.size + 1, 0, none⟩) 2 2] 24)).alloc (.cells #[.int .i64 0, .int .i64 0, .int .i64 0, .int .i64 0, .int .i64 0, .int .i64 0, .int .i64 0, .int .i64 0, .int .i64 0, .int .i64 0, .int .i64 0, .int .i64 0, .int .i64 0, .int .i64 0, .int .i64 0, .int .i64 0, .int .i64 0, .int .i64 0] 65)).alloc (.cells #[.slice sa sn sc, .slice sb tn tc] 63)) sa sn sc sb tn tc := by
  refine ⟨?_, by simp, ?_, ?_, ?_, ?_, ?_, ?_⟩
  · have h1 := Below.refl w.heap.size w
    exact (((((h1.alloc (Nat.le_refl _) _).alloc (by simp) _).alloc (by simp; omega) _).alloc (by simp; omega) _).alloc (by simp; omega) _).alloc (by simp; omega) _
  · have h := BoxN.new w #[.string ⟨#[110]⟩, .slice none 0 0, .string ⟨#[109]⟩, .slice none 0 0] 30
    rw [show w.heap.size = w.heap.size + 0 by simp] at h
    exact (((((h.alloc _).alloc _).alloc _).alloc _).alloc _)
  · have h := BoxN.new (w.alloc (.cells #[.string ⟨#[110]⟩, .slice none 0 0, .string ⟨#[109]⟩, .slice none 0 0] 30)) #[.string ⟨#[109]⟩, .slice none 0 0, .string ⟨#[110]⟩, .slice none 0 0] 30
    rw [show (w.alloc (.cells #[.string ⟨#[110]⟩, .slice none 0 0, .string ⟨#[109]⟩, .slice none 0 0] 30)).heap.size = w.heap.size + 1 by simp] at h
    exact ((((h.alloc _).alloc _).alloc _).alloc _)
  · have h := BoxN.new ((w.alloc (.cells #[.string ⟨#[110]⟩, .slice none 0 0, .string ⟨#[109]⟩, .slice none 0 0] 30)).alloc (.cells #[.string ⟨#[109]⟩, .slice none 0 0, .string ⟨#[110]⟩, .slice none 0 0] 30)) #[.int .i64 1, .string ⟨#[]⟩, .slice (some ⟨w.heap.size, 0, none⟩) 2 2] 24
    rw [show ((w.alloc (.cells #[.string ⟨#[110]⟩, .slice none 0 0, .string ⟨#[109]⟩, .slice none 0 0] 30)).alloc (.cells #[.string ⟨#[109]⟩, .slice none 0 0, .string ⟨#[110]⟩, .slice none 0 0] 30)).heap.size = w.heap.size + 2 by simp] at h
    exact (((h.alloc _).alloc _).alloc _)
  · have h := BoxN.new (((w.alloc (.cells #[.string ⟨#[110]⟩, .slice none 0 0, .string ⟨#[109]⟩, .slice none 0 0] 30)).alloc (.cells #[.string ⟨#[109]⟩, .slice none 0 0, .string ⟨#[110]⟩, .slice none 0 0] 30)).alloc (.cells #[.int .i64 1, .string ⟨#[]⟩, .slice (some ⟨w.heap.size, 0, none⟩) 2 2] 24)) #[.int .i64 2, .string ⟨#[]⟩, .slice (some ⟨w.heap.size + 1, 0, none⟩) 2 2] 24
    rw [show (((w.alloc (.cells #[.string ⟨#[110]⟩, .slice none 0 0, .string ⟨#[109]⟩, .slice none 0 0] 30)).alloc (.cells #[.string ⟨#[109]⟩, .slice none 0 0, .string ⟨#[110]⟩, .slice none 0 0] 30)).alloc (.cells #[.int .i64 1, .string ⟨#[]⟩, .slice (some ⟨w.heap.size, 0, none⟩) 2 2] 24)).heap.size = w.heap.size + 3 by simp] at h
    exact ((h.alloc _).alloc _)
  · have h := BoxN.new ((((w.alloc (.cells #[.string ⟨#[110]⟩, .slice none 0 0, .string ⟨#[109]⟩, .slice none 0 0] 30)).alloc (.cells #[.string ⟨#[109]⟩, .slice none 0 0, .string ⟨#[110]⟩, .slice none 0 0] 30)).alloc (.cells #[.int .i64 1, .string ⟨#[]⟩, .slice (some ⟨w.heap.size, 0, none⟩) 2 2] 24)).alloc (.cells #[.int .i64 2, .string ⟨#[]⟩, .slice (some ⟨w.heap.size + 1, 0, none⟩) 2 2] 24)) #[.int .i64 0, .int .i64 0, .int .i64 0, .int .i64 0, .int .i64 0, .int .i64 0, .int .i64 0, .int .i64 0, .int .i64 0, .int .i64 0, .int .i64 0, .int .i64 0, .int .i64 0, .int .i64 0, .int .i64 0, .int .i64 0, .int .i64 0, .int .i64 0] 65
    rw [show ((((w.alloc (.cells #[.string ⟨#[110]⟩, .slice none 0 0, .string ⟨#[109]⟩, .slice none 0 0] 30)).alloc (.cells #[.string ⟨#[109]⟩, .slice none 0 0, .string ⟨#[110]⟩, .slice none 0 0] 30)).alloc (.cells #[.int .i64 1, .string ⟨#[]⟩, .slice (some ⟨w.heap.size, 0, none⟩) 2 2] 24)).alloc (.cells #[.int .i64 2, .string ⟨#[]⟩, .slice (some ⟨w.heap.size + 1, 0, none⟩) 2 2] 24)).heap.size = w.heap.size + 4 by simp] at h
    exact (h.alloc _)
  · have h := BoxN.new (((((w.alloc (.cells #[.string ⟨#[110]⟩, .slice none 0 0, .string ⟨#[109]⟩, .slice none 0 0] 30)).alloc (.cells #[.string ⟨#[109]⟩, .slice none 0 0, .string ⟨#[110]⟩, .slice none 0 0] 30)).alloc (.cells #[.int .i64 1, .string ⟨#[]⟩, .slice (some ⟨w.heap.size, 0, none⟩) 2 2] 24)).alloc (.cells #[.int .i64 2, .string ⟨#[]⟩, .slice (some ⟨w.heap.size + 1, 0, none⟩) 2 2] 24)).alloc (.cells #[.int .i64 0, .int .i64 0, .int .i64 0, .int .i64 0, .int .i64 0, .int .i64 0, .int .i64 0, .int .i64 0, .int .i64 0, .int .i64 0, .int .i64 0, .int .i64 0, .int .i64 0, .int .i64 0, .int .i64 0, .int .i64 0, .int .i64 0, .int .i64 0] 65)) #[.slice sa sn sc, .slice sb tn tc] 63
    rw [show (((((w.alloc (.cells #[.string ⟨#[110]⟩, .slice none 0 0, .string ⟨#[109]⟩, .slice none 0 0] 30)).alloc (.cells #[.string ⟨#[109]⟩, .slice none 0 0, .string ⟨#[110]⟩, .slice none 0 0] 30)).alloc (.cells #[.int .i64 1, .string ⟨#[]⟩, .slice (some ⟨w.heap.size, 0, none⟩) 2 2] 24)).alloc (.cells #[.int .i64 2, .string ⟨#[]⟩, .slice (some ⟨w.heap.size + 1, 0, none⟩) 2 2] 24)).alloc (.cells #[.int .i64 0, .int .i64 0, .int .i64 0, .int .i64 0, .int .i64 0, .int .i64 0, .int .i64 0, .int .i64 0, .int .i64 0, .int .i64 0, .int .i64 0, .int .i64 0, .int .i64 0, .int .i64 0, .int .i64 0, .int .i64 0, .int .i64 0, .int .i64 0] 65)).heap.size = w.heap.size + 5 by simp] at h
    exact h

set_option maxRecDepth 100000 in
set_option maxHeartbeats 4000000 in
theorem law36_counts (sa sb : Option Addr) (sn sc tn tc : Nat) (A B : List Nat) (w : World) (hA : Byts w (· < w.heap.size) sa sn sc A) (hB : Byts w (· < w.heap.size) sb tn tc B) (hT : Tabs w) :
    Calls Tryz.prog 5 #[.slice sa sn sc, .slice sb tn tc] w (Ret w (.bool true)) := by
  have HA := hid hA
  have HB := hid hB
  have HT := hid hT
  clear hA hB hT
  by_cases hg : sn ≤ 30 ∧ tn ≤ 30
  · obtain ⟨hg1, hg2⟩ := hg
    have hd1 : decide ((30 : Int) < (sn : Int)) = false := decide_eq_false (by omega)
    have hd2 : decide ((30 : Int) < (tn : Int)) = false := decide_eq_false (by omega)
    have hd3 : decide (30 < sn) = false := decide_eq_false (by omega)
    have hd4 : decide (30 < tn) = false := decide_eq_false (by omega)
    have HBG := hid (begun w sa sn sc sb tn tc)
    go_enter Tryz.func5, Tryz.ntmps5
    go_wp2_with fail
    clear hd1 hd2 hd3 hd4
    generalize ((((((w.alloc (.cells #[.string ⟨#[110]⟩, .slice none 0 0, .string ⟨#[109]⟩, .slice none 0 0] 30)).alloc (.cells #[.string ⟨#[109]⟩, .slice none 0 0, .string ⟨#[110]⟩, .slice none 0 0] 30)).alloc (.cells #[.int .i64 1, .string ⟨#[]⟩, .slice (some ⟨w.heap.size, 0, none⟩) 2 2] 24)).alloc (.cells #[.int .i64 2, .string ⟨#[]⟩, .slice (some ⟨w.heap.size + 1, 0, none⟩) 2 2] 24)).alloc (.cells #[.int .i64 0, .int .i64 0, .int .i64 0, .int .i64 0, .int .i64 0, .int .i64 0, .int .i64 0, .int .i64 0, .int .i64 0, .int .i64 0, .int .i64 0, .int .i64 0, .int .i64 0, .int .i64 0, .int .i64 0, .int .i64 0, .int .i64 0, .int .i64 0] 65)).alloc (.cells #[.slice sa sn sc, .slice sb tn tc] 63)) = W0 at *
    have l0 := HBG.out.list.cell 0 rfl
    have l1 := HBG.out.list.cell 1 rfl
    refine wp_loop_rounds 3 ?_
    rw [rounds_succ]
    go_wp2_with fail
    have HTB := hid (fun W (h : ∀ k, k < (w.heap.size + 6) → k ≠ w.heap.size + 4 → k ≠ w.heap.size → W.heap[k]? = W0.heap[k]?) => (show BoxN W (w.heap.size + 2) 24 #[(.int .i64 1), .string ⟨#[]⟩, .slice (some ⟨w.heap.size, 0, none⟩) 2 2] from (h (w.heap.size + 2) (by omega) (by omega) (by omega)).trans HBG.out.tabA))
    go_loopg [46] sn (fun N i wr => ∃ (q : Nat) (v1 v2 : Value), i = .int .i64 (q : Int) ∧ q + N = sn ∧ Hid (PassSt w W0 wr (w.heap.size + 4) (w.heap.size) (w.heap.size + 6) 65 (cntA (A.take q)) ⟨#[110]⟩ ⟨#[109]⟩ v1 v2 v1 v2 ((A.take q).map pC) ((A.take q).map qC)))
    case atStart => exact ⟨0, .slice none 0 0, .slice none 0 0, rfl, by omega, hid (pass_begin HBG.out.bel (by have := HBG.out.size; omega) (counts_zero HBG.out.cnts) HBG.out.rowA)⟩
    case round =>
      obtain ⟨q, v1, v2, rfl, hq, HST⟩ := hrel
      by_cases hp : 0 < gk
      · obtain ⟨b, o, rfl, hb, hcell⟩ := HA.out.at_ (by omega)
        have k1 := (HST.out.bel.cell (p := ⟨b, o + q, none⟩) hb).trans (hcell q (by omega))
        have hlt := HA.out.lt q
        have HTK := hid (take_snoc (A := A) (q := q) (by have := HA.out.len; omega))
        have HLQ : Hid ((A.take q).length = q) := hid (by rw [List.length_take]; have := HA.out.len; omega)
        have r9 : Int.tmod ((A.getD q 0 : Nat) : Int) 9 = ((A.getD q 0 % 9 : Nat) : Int) := by rw [Int.tmod_eq_emod_of_nonneg (by omega)]; omega
        have hv9 : A.getD q 0 % 9 < 9 := Nat.mod_lt _ (by omega)
        clear hcell
        have n0 := HST.out.cnts.cell (i := A.getD q 0 % 9) (by omega)
        have nf0 := HST.out.cnts.frozen (A.getD q 0 % 9)
        have HCL : Hid (cntA (A.take q) (A.getD q 0 % 9) ≤ 30) := hid (by
          unfold cntA
          rw [if_pos hv9]
          exact Nat.le_trans (cnt9_le _ _) (by rw [List.length_take]; omega))
        generalize A.getD q 0 = v at *
        generalize hvm : v % 9 = m9 at *
        generalize hcm : cntA (A.take q) (m9) = cm at *
        have hcm30 := HCL.out
        go_upto_region 11 with fail
        have HST1 : Hid (PassSt w W0 (wr.setCell ⟨w.heap.size + 4, m9, none⟩ (.int .i64 ((cm : Int) + 1))).drew (w.heap.size + 4) (w.heap.size) (w.heap.size + 6) 65 (cntA (A.take (q + 1))) ⟨#[110]⟩ ⟨#[109]⟩ v1 v2 v1 v2 ((A.take q).map pC) ((A.take q).map qC)) := hid (by
          have h := (HST.out.count (by omega) (by omega) (by omega) (m9) (cm + 1)).later (W' := (wr.setCell ⟨w.heap.size + 4, m9, none⟩ (.int .i64 ((cm + 1 : Nat) : Int))).drew) (by have h1 := Below.refl (wr.setCell ⟨w.heap.size + 4, m9, none⟩ (.int .i64 ((cm + 1 : Nat) : Int))).heap.size (wr.setCell ⟨w.heap.size + 4, m9, none⟩ (.int .i64 ((cm + 1 : Nat) : Int))); repeat' (first | (with_reducible exact Below.refl _ _) | (with_reducible assumption) | (with_reducible refine below_drewN ?_) | (with_reducible refine Below.alloc ?_ ?_ _) | (with_reducible refine Below.drew ?_) | (with_reducible refine Below.setCell ?_ ?_ _) | (with_reducible refine Below.trans ?_ (Below.mono (by with_reducible assumption) ?_)) | go_size)) (by omega) (by omega) (by have := HST.out.bel.size; simpa using this)
          rw [show ((cm + 1 : Nat) : Int) = (cm : Int) + 1 by omega] at h
          have e : (fun i => if i = m9 then cm + 1 else cntA (A.take q) i) = cntA (A.take (q + 1)) := by
            funext i
            rw [HTK.out]
            exact cntA_step hvm hv9 hcm i
          rw [e] at h
          exact h)
        go_region
        clear n0 nf0 k1 r9
        generalize (wr.setCell ⟨w.heap.size + 1 + 1 + 1 + 1, m9, none⟩ (.int .i64 ((cm : Int) + 1))).drew = W1 at *
        have r3 : Int.tmod ((v : Nat) : Int) 3 = ((v % 3 : Nat) : Int) := by rw [Int.tmod_eq_emod_of_nonneg (by omega)]; omega
        have rd : Int.tdiv ((v : Nat) : Int) 3 = ((v / 3 : Nat) : Int) := by rw [Int.tdiv_eq_ediv_of_nonneg (by omega)]; omega
        have rq : Int.tmod ((v / 3 : Nat) : Int) 3 = ((v / 3 % 3 : Nat) : Int) := by rw [Int.tmod_eq_emod_of_nonneg (by omega)]; omega
        have hp3 : v % 3 < 3 := Nat.mod_lt _ (by omega)
        have hq3 : v / 3 % 3 < 3 := Nat.mod_lt _ (by omega)
        have HPC : Hid (pC v = ⟨false, ⟨#[UInt8.ofNat (97 + v % 3)]⟩⟩) := hid rfl
        have HQC : Hid (qC v = if v / 3 % 3 = 0 then ⟨true, ⟨#[]⟩⟩ else ⟨false, ⟨#[UInt8.ofNat (97 + v / 3 % 3)]⟩⟩) := hid rfl
        have hconv : ∀ (W : World) (b x : Nat), W.cell? ⟨b, 0, none⟩ = some (.int .u8 (97 + (x : Int))) → (convert 63 9 (.slice (some ⟨b, 0, none⟩) 1 1)).run Tryz.prog W = .ok (.string ⟨#[UInt8.ofNat (97 + x)]⟩) W := fun W b x h => by
          have hcl : ∀ i, i < 1 → W.cell? ⟨b, 0 + i, none⟩ = some (.int .u8 ([97 + (x : Int)].getD i 0)) := fun i hi => by
            obtain rfl : i = 0 := by omega
            exact h
          rw [run_convert_bytes_arg W 63 5 Tryz.underlying63 Tryz.underlying5 b 0 1 1 [97 + (x : Int)] rfl hcl 9 Tryz.underlying9]
          have : (97 + (x : Int)).toNat = 97 + x := by omega
          simp [strOfNums, this]
        have hd256 : v / 3 < 256 := by omega
        generalize hqe : v / 3 % 3 = q3 at *
        generalize v / 3 = d3 at *
        generalize v % 3 = p3 at *
        have hw1 : IntKind.u8.wrap (p3 : Int) = (p3 : Int) := by rw [IntKind.wrap_u8]; omega
        have hw2 : IntKind.u8.wrap (97 + (p3 : Int)) = 97 + (p3 : Int) := by rw [IntKind.wrap_u8]; omega
        have hw3 : IntKind.u8.wrap (97 + (q3 : Int)) = 97 + (q3 : Int) := by rw [IntKind.wrap_u8]; omega
        have hnew : ∀ (W : World) (x : Nat) (t : TypeId), (W.alloc (.cells #[.int .u8 (97 + (x : Int))] t)).cell? ⟨W.heap.size, 0, none⟩ = some (.int .u8 (97 + (x : Int))) := fun W x t => World.cell?_alloc_at _ _ _ _ rfl
        have hcx := fun (W : World) (x : Nat) (t : TypeId) => hconv _ _ x (hnew W x t)
        go_upto_if 72 with fail
        go_cut [13] from 47 to 130 (fun s13 wx => s13 = .pointer (some ⟨W1.heap.size + 1 + 1, 0, none⟩) ∧ Hid (QBox W1 wx (pC v) (qC v)))
        case first =>
          by_cases hz : q3 = 0
          · subst hz
            go_wp2_with fail
            go_meet
            exact ⟨rfl, hid (qbox_at W1 _ _ _ (pC v) (qC v) (by rw [HPC.out]; simp [UInt8.ofNat_add]) (by rw [HQC.out]; simp))⟩
          · have hb0 : ((q3 : Int) == 0) = false := by simp; omega
            have hb1 : ¬ (q3 : Int) = 0 := by omega
            have hcy : (convert 63 9 (.slice (some ⟨W1.heap.size + 1 + 1 + 1, 0, none⟩) 1 1)).run Tryz.prog ((((W1.alloc (.cells #[.int .u8 (97 + (p3 : Int))] 5)).alloc (.cells #[.bool false, .string ⟨#[97 + UInt8.ofNat p3]⟩] 58)).alloc (.cells #[.bool false, .string ⟨#[]⟩] 58)).alloc (.cells #[.int .u8 (97 + (q3 : Int))] 5)) = .ok (.string ⟨#[UInt8.ofNat (97 + q3)]⟩) ((((W1.alloc (.cells #[.int .u8 (97 + (p3 : Int))] 5)).alloc (.cells #[.bool false, .string ⟨#[97 + UInt8.ofNat p3]⟩] 58)).alloc (.cells #[.bool false, .string ⟨#[]⟩] 58)).alloc (.cells #[.int .u8 (97 + (q3 : Int))] 5)) := by
              refine hconv _ _ q3 ?_
              have h := hnew (((W1.alloc (.cells #[.int .u8 (97 + (p3 : Int))] 5)).alloc (.cells #[.bool false, .string ⟨#[97 + UInt8.ofNat p3]⟩] 58)).alloc (.cells #[.bool false, .string ⟨#[]⟩] 58)) q3 5
              simpa using h
            go_wp2_with fail
            rotate_left
            · rename_i hx
              rw [hb0] at hx
              cases hx
            go_meet
            exact ⟨rfl, hid ((qbox_at W1 _ _ _ (pC v) (qC v) (by rw [HPC.out]; simp [UInt8.ofNat_add]) (by rw [HQC.out, if_neg hz]; simp [UInt8.ofNat_add])).alloc _)⟩
        case rest =>
          obtain ⟨rfl, HQB⟩ := hcut
          clear hcx hnew hconv r3 rd rq hw1 hw2 hw3
          obtain ⟨W2, rfl⟩ : ∃ W2, W2 = wc := ⟨wc, rfl⟩
          have HST2 := hid (HST1.out.later HQB.out.bel (by omega) (by omega) (by have := HST1.out.bel.size; omega))
          have HRG : Hid (Reg (w.heap.size + 6) W1.heap.size W2 (w.heap.size + 2) (w.heap.size) (W1.heap.size + 1) (W1.heap.size + 2) (.int .i64 1) (.string ⟨#[]⟩) (pC v) (qC v)) := hid ⟨(HTB.out _ HST2.out.keep), HQB.out.p, HQB.out.q, by omega, by omega, by omega⟩
          have HNE := hid (And.intro (own_far HST1.out.own1 (Nat.le_refl _)) (own_far HST1.out.own2 (Nat.le_refl _)))
          have HLL : Hid (((A.take q).map pC).length ≤ 30 ∧ ((A.take q).map qC).length ≤ 30) := hid (by rw [List.length_map, List.length_map, HLQ.out]; omega)
          generalize hl1 : (A.take q).map pC = l1 at *
          generalize hl2 : (A.take q).map qC = l2 at *
          clear HPC HQC
          generalize hcc : pC v = c at *
          generalize hdd : qC v = d at *
          obtain ⟨cn, ctx⟩ := c
          obtain ⟨dn, dtx⟩ := d
          have HCC := hid hcc
          have HDD := hid hdd
          clear hcc hdd
          have HL1 := hid hl1
          have HL2 := hid hl2
          clear hl1 hl2
          have HE1 : Hid ((A.take (q + 1)).map pC = l1 ++ [⟨cn, ctx⟩]) := hid (by rw [HTK.out, List.map_append, HL1.out, List.map_singleton, HCC.out])
          have HE2 : Hid ((A.take (q + 1)).map qC = l2 ++ [⟨dn, dtx⟩]) := hid (by rw [HTK.out, List.map_append, HL2.out, List.map_singleton, HDD.out])
          have hsz2 := HQB.out.p.lt
          have hbz1 := HST1.out.low
          go_upto_region 16 with fail
          obtain ⟨i0, hi, hz0, hz1, hz2⟩ := info_parts info_cell
          have HSTd := hid (HST2.out.later (W' := W2.drew) (by have h1 := Below.refl W2.heap.size W2; repeat' (first | (with_reducible exact Below.refl _ _) | (with_reducible assumption) | (with_reducible refine below_drewN ?_) | (with_reducible refine Below.alloc ?_ ?_ _) | (with_reducible refine Below.drew ?_) | (with_reducible refine Below.setCell ?_ ?_ _) | (with_reducible refine Below.trans ?_ (Below.mono (by with_reducible assumption) ?_)) | go_size)) (by omega) (by omega) (by have := HST2.out.bel.size; omega))
          have HRGd := hid (HRG.out.later (W' := W2.drew) (by have h1 := Below.refl W2.heap.size W2; repeat' (first | (with_reducible exact Below.refl _ _) | (with_reducible assumption) | (with_reducible refine below_drewN ?_) | (with_reducible refine Below.alloc ?_ ?_ _) | (with_reducible refine Below.drew ?_) | (with_reducible refine Below.setCell ?_ ?_ _) | (with_reducible refine Below.trans ?_ (Below.mono (by with_reducible assumption) ?_)) | go_size)))
          have HTw := HRGd.out.T
          have HSw := HRGd.out.S HSTd.out
          dsimp only at HTw HSw
          refine wp_region_before (st := 22) (T := fun w' => w'.cell? ⟨w.heap.size + 1 + 1, 2, none⟩ = some (.slice (some ⟨w.heap.size, 0, none⟩) 2 2)) (S := fun w' => w'.cell? ⟨w.heap.size, 1, none⟩ = some v1 ∧ w'.cell? ⟨w.heap.size, 3, none⟩ = some v2 ∧ w'.cell? ⟨W1.heap.size + 1, 0, none⟩ = some (.bool cn) ∧ w'.cell? ⟨W1.heap.size + 1, 1, none⟩ = some (.string ctx) ∧ w'.cell? ⟨W1.heap.size + 1 + 1, 0, none⟩ = some (.bool dn) ∧ w'.cell? ⟨W1.heap.size + 1 + 1, 1, none⟩ = some (.string dtx)) (by kernel_rfl) ?_
          generalize W2.drew = Wd at *
          refine wpAnyB_takeT (i := 0) (oi := ?o0_29) (v := ?v0_29) ?hi0_29 (by kernel_rfl) (by kernel_rfl) (by kernel_rfl) (by kernel_rfl) ?hq0_29 ?hy0_29 (fun _ => HSw) HTw ?r0_29
          case hi0_29 => (simp only [List.getElem?_toArray, List.getElem?_cons_zero, List.getElem?_cons_succ]; exact rfl)
          case hq0_29 => exact fun _ _ _ h => h
          case hy0_29 =>
            refine Or.inl ⟨by rfl, ?_⟩
            intro w' hSw
            (try dsimp only at hSw)
            first
            | (go_simp; done)
            | (go_simp; with_reducible rfl)
          try simp only [Act.put, List.setIfInBounds_toArray, List.set_cons_zero, List.set_cons_succ]
          refine wpAnyB_takeT (i := 1) (oi := ?o1_30) (v := ?v1_30) ?hi1_30 (by kernel_rfl) (by kernel_rfl) (by kernel_rfl) (by kernel_rfl) ?hq1_30 ?hy1_30 (fun _ => HSw) HTw ?r1_30
          case hi1_30 => (simp only [List.getElem?_toArray, List.getElem?_cons_zero, List.getElem?_cons_succ]; exact rfl)
          case hq1_30 => exact fun _ _ _ h => h
          case hy1_30 =>
            refine Or.inl ⟨by rfl, ?_⟩
            intro w' hSw
            (try dsimp only at hSw)
            first
            | (go_simp; done)
            | (go_simp; with_reducible rfl)
          try simp only [Act.put, List.setIfInBounds_toArray, List.set_cons_zero, List.set_cons_succ]
          refine wpAnyB_takeT (i := 2) (oi := ?o2_31) (v := ?v2_31) ?hi2_31 (by kernel_rfl) (by kernel_rfl) (by kernel_rfl) (by kernel_rfl) ?hq2_31 ?hy2_31 (fun _ => HSw) HTw ?r2_31
          case hi2_31 => (simp only [List.getElem?_toArray, List.getElem?_cons_zero, List.getElem?_cons_succ]; exact rfl)
          case hq2_31 => exact fun _ _ _ h => h
          case hy2_31 =>
            refine Or.inl ⟨by rfl, ?_⟩
            intro w' hSw
            (try dsimp only at hSw)
            first
            | (go_simp; done)
            | (go_simp; with_reducible rfl)
          try simp only [Act.put, List.setIfInBounds_toArray, List.set_cons_zero, List.set_cons_succ]
          refine wpAnyB_takeT (i := 3) (oi := ?o3_32) (v := ?v3_32) ?hi3_32 (by kernel_rfl) (by kernel_rfl) (by kernel_rfl) (by kernel_rfl) ?hq3_32 ?hy3_32 (fun _ => HSw) HTw ?r3_32
          case hi3_32 => (simp only [List.getElem?_toArray, List.getElem?_cons_zero, List.getElem?_cons_succ]; exact rfl)
          case hq3_32 => exact fun _ _ _ h => h
          case hy3_32 =>
            refine Or.inl ⟨by rfl, ?_⟩
            intro w' hSw
            (try dsimp only at hSw)
            first
            | (go_simp; done)
            | (go_simp; with_reducible rfl)
          try simp only [Act.put, List.setIfInBounds_toArray, List.set_cons_zero, List.set_cons_succ]
          refine wpAnyB_takeT (i := 4) (oi := ?o4_33) (v := ?v4_33) ?hi4_33 (by kernel_rfl) (by kernel_rfl) (by kernel_rfl) (by kernel_rfl) ?hq4_33 ?hy4_33 (fun _ => HSw) HTw ?r4_33
          case hi4_33 => (simp only [List.getElem?_toArray, List.getElem?_cons_zero, List.getElem?_cons_succ]; exact rfl)
          case hq4_33 => exact fun _ _ _ h => h
          case hy4_33 =>
            refine Or.inl ⟨by rfl, ?_⟩
            intro w' hSw
            (try dsimp only at hSw)
            first
            | (go_simp; done)
            | (go_simp; with_reducible rfl)
          try simp only [Act.put, List.setIfInBounds_toArray, List.set_cons_zero, List.set_cons_succ]
          refine wpAnyB_takeT (i := 5) (oi := ?o5_34) (v := ?v5_34) ?hi5_34 (by kernel_rfl) (by kernel_rfl) (by kernel_rfl) (by kernel_rfl) ?hq5_34 ?hy5_34 (fun _ => HSw) HTw ?r5_34
          case hi5_34 => (simp only [List.getElem?_toArray, List.getElem?_cons_zero, List.getElem?_cons_succ]; exact rfl)
          case hq5_34 => exact fun _ _ _ h => h
          case hy5_34 =>
            refine Or.inl ⟨by rfl, ?_⟩
            intro w' hSw
            (try dsimp only at hSw)
            first
            | (go_simp; done)
            | (go_simp; with_reducible rfl)
          try simp only [Act.put, List.setIfInBounds_toArray, List.set_cons_zero, List.set_cons_succ]
          refine wpAnyB_takeT (i := 6) (oi := ?o6_35) (v := ?v6_35) ?hi6_35 (by kernel_rfl) (by kernel_rfl) (by kernel_rfl) (by kernel_rfl) ?hq6_35 ?hy6_35 (fun _ => HSw) HTw ?r6_35
          case hi6_35 => (simp only [List.getElem?_toArray, List.getElem?_cons_zero, List.getElem?_cons_succ]; exact rfl)
          case hq6_35 => exact fun _ _ _ h => h
          case hy6_35 =>
            refine Or.inl ⟨by rfl, ?_⟩
            intro w' hSw
            (try dsimp only at hSw)
            first
            | (go_simp; done)
            | (go_simp; with_reducible rfl)
          try simp only [Act.put, List.setIfInBounds_toArray, List.set_cons_zero, List.set_cons_succ]
          refine wpAnyB_takeT (i := 7) (oi := ?o7_36) (v := ?v7_36) ?hi7_36 (by kernel_rfl) (by kernel_rfl) (by kernel_rfl) (by kernel_rfl) ?hq7_36 ?hy7_36 (fun _ => HSw) HTw ?r7_36
          case hi7_36 => (simp only [List.getElem?_toArray, List.getElem?_cons_zero, List.getElem?_cons_succ]; exact rfl)
          case hq7_36 => exact fun _ _ _ h => h
          case hy7_36 =>
            refine Or.inl ⟨by rfl, ?_⟩
            intro w' hSw
            (try dsimp only at hSw)
            first
            | (go_simp; done)
            | (go_simp; with_reducible rfl)
          try simp only [Act.put, List.setIfInBounds_toArray, List.set_cons_zero, List.set_cons_succ]
          refine wpAnyB_take (i := 8) (oi := ?o8_37) (v := ?v8_37) ?hi8_37 (by kernel_rfl) (by kernel_rfl) (by kernel_rfl) [22, 11] (by kernel_rfl) ?hq8_37 ?hy8_37 HSw HTw ?r8_37
          case hi8_37 => (simp only [List.getElem?_toArray, List.getElem?_cons_zero, List.getElem?_cons_succ]; exact rfl)
          case hq8_37 => exact fun _ _ _ h => h
          case hy8_37 =>
            refine Or.inl ⟨by rfl, ?_⟩
            intro w' hSw
            (try dsimp only at hSw)
            first
            | (go_simp; done)
            | (go_simp; with_reducible rfl)
          try simp only [Act.put, List.setIfInBounds_toArray, List.set_cons_zero, List.set_cons_succ]
          refine wpAnyB_take (i := 9) (oi := ?o9_38) (v := ?v9_38) ?hi9_38 (by kernel_rfl) (by kernel_rfl) (by kernel_rfl) [22, 11, 10] (by kernel_rfl) ?hq9_38 ?hy9_38 HSw HTw ?r9_38
          case hi9_38 => (simp only [List.getElem?_toArray, List.getElem?_cons_zero, List.getElem?_cons_succ]; exact rfl)
          case hq9_38 => exact fun _ _ _ h => h
          case hy9_38 =>
            refine Or.inl ⟨by rfl, ?_⟩
            intro w' hSw
            (try dsimp only at hSw)
            first
            | (go_simp; done)
            | (go_simp; with_reducible rfl)
          try simp only [Act.put, List.setIfInBounds_toArray, List.set_cons_zero, List.set_cons_succ]
          refine wpAnyB_takeT (i := 12) (oi := ?o12_39) (v := ?v12_39) ?hi12_39 (by kernel_rfl) (by kernel_rfl) (by kernel_rfl) (by kernel_rfl) ?hq12_39 ?hy12_39 (fun _ => HSw) HTw ?r12_39
          case hi12_39 => (simp only [List.getElem?_toArray, List.getElem?_cons_zero, List.getElem?_cons_succ]; exact rfl)
          case hq12_39 => exact fun _ _ _ h => h
          case hy12_39 =>
            refine Or.inl ⟨by rfl, ?_⟩
            intro w' hSw
            (try dsimp only at hSw)
            first
            | (go_simp; done)
            | (go_simp; with_reducible rfl)
          try simp only [Act.put, List.setIfInBounds_toArray, List.set_cons_zero, List.set_cons_succ]
          refine wpAnyB_takeT (i := 13) (oi := ?o13_40) (v := ?v13_40) ?hi13_40 (by kernel_rfl) (by kernel_rfl) (by kernel_rfl) (by kernel_rfl) ?hq13_40 ?hy13_40 (fun _ => HSw) HTw ?r13_40
          case hi13_40 => (simp only [List.getElem?_toArray, List.getElem?_cons_zero, List.getElem?_cons_succ]; exact rfl)
          case hq13_40 => exact fun _ _ _ h => h
          case hy13_40 =>
            refine Or.inl ⟨by rfl, ?_⟩
            intro w' hSw
            (try dsimp only at hSw)
            first
            | (go_simp; done)
            | (go_simp; with_reducible rfl)
          try simp only [Act.put, List.setIfInBounds_toArray, List.set_cons_zero, List.set_cons_succ]
          refine wpAnyB_takeT (i := 14) (oi := ?o14_41) (v := ?v14_41) ?hi14_41 (by kernel_rfl) (by kernel_rfl) (by kernel_rfl) (by kernel_rfl) ?hq14_41 ?hy14_41 (fun _ => HSw) HTw ?r14_41
          case hi14_41 => (simp only [List.getElem?_toArray, List.getElem?_cons_zero, List.getElem?_cons_succ]; exact rfl)
          case hq14_41 => exact fun _ _ _ h => h
          case hy14_41 =>
            refine Or.inl ⟨by rfl, ?_⟩
            intro w' hSw
            (try dsimp only at hSw)
            first
            | (go_simp; done)
            | (go_simp; with_reducible rfl)
          try simp only [Act.put, List.setIfInBounds_toArray, List.set_cons_zero, List.set_cons_succ]
          refine wpAnyB_takeT (i := 15) (oi := ?o15_42) (v := ?v15_42) ?hi15_42 (by kernel_rfl) (by kernel_rfl) (by kernel_rfl) (by kernel_rfl) ?hq15_42 ?hy15_42 (fun _ => HSw) HTw ?r15_42
          case hi15_42 => (simp only [List.getElem?_toArray, List.getElem?_cons_zero, List.getElem?_cons_succ]; exact rfl)
          case hq15_42 => exact fun _ _ _ h => h
          case hy15_42 =>
            refine Or.inl ⟨by rfl, ?_⟩
            intro w' hSw
            (try dsimp only at hSw)
            first
            | (go_simp; done)
            | (go_simp; with_reducible rfl)
          try simp only [Act.put, List.setIfInBounds_toArray, List.set_cons_zero, List.set_cons_succ]
          refine wpAnyB_take (i := 16) (oi := ?o16_43) (v := ?v16_43) ?hi16_43 (by kernel_rfl) (by kernel_rfl) (by kernel_rfl) [22, 19] (by kernel_rfl) ?hq16_43 ?hy16_43 HSw HTw ?r16_43
          case hi16_43 => (simp only [List.getElem?_toArray, List.getElem?_cons_zero, List.getElem?_cons_succ]; exact rfl)
          case hq16_43 => exact fun _ _ _ h => h
          case hy16_43 =>
            refine Or.inl ⟨by rfl, ?_⟩
            intro w' hSw
            (try dsimp only at hSw)
            first
            | (go_simp; done)
            | (go_simp; with_reducible rfl)
          try simp only [Act.put, List.setIfInBounds_toArray, List.set_cons_zero, List.set_cons_succ]
          refine wpAnyB_take (i := 17) (oi := ?o17_44) (v := ?v17_44) ?hi17_44 (by kernel_rfl) (by kernel_rfl) (by kernel_rfl) [22, 19, 18] (by kernel_rfl) ?hq17_44 ?hy17_44 HSw HTw ?r17_44
          case hi17_44 => (simp only [List.getElem?_toArray, List.getElem?_cons_zero, List.getElem?_cons_succ]; exact rfl)
          case hq17_44 => exact fun _ _ _ h => h
          case hy17_44 =>
            refine Or.inl ⟨by rfl, ?_⟩
            intro w' hSw
            (try dsimp only at hSw)
            first
            | (go_simp; done)
            | (go_simp; with_reducible rfl)
          try simp only [Act.put, List.setIfInBounds_toArray, List.set_cons_zero, List.set_cons_succ]
          clear HTw HSw
          refine wpAnyB_ready (rs := [10, 18]) (by kernel_rfl) (by simp) ?_
          refine AllReadyB.cons rfl (fun K hK => ?_) ?_
          · go_simp
            have HSa0 := hid (HSTd.out.later (Below.alloc (Below.refl _ _) (Nat.le_refl _) (.cells #[.bool cn, .string ctx] 58)) (by omega) (by omega) (by have := HSTd.out.low; omega))
            have HRa0 := hid (HRGd.out.later (Below.alloc (Below.refl _ _) (Nat.le_refl _) (.cells #[.bool cn, .string ctx] 58)))
            have HNc0 := hid (BoxN.new Wd #[.bool cn, .string ctx] 58)
            have hloc : W1.heap.size ≤ Wd.heap.size := by have := HRGd.out.p.lt; omega
            refine hK.out _ _ (fun _ => HRa0.out.S HSa0.out) HRa0.out.T ?_
            try simp only [Act.put, List.setIfInBounds_toArray, List.set_cons_zero, List.set_cons_succ]
            generalize World.alloc Wd (.cells #[.bool cn, .string ctx] 58) = Wa0 at *
            generalize Wd.heap.size = Nc at *
            refine wpAnyB_ready (rs := [11, 18]) (by kernel_rfl) (by simp) ?_
            refine AllReadyB.cons rfl (fun K hK => ?_) ?_
            · refine step_append_form _ rfl (.tmp 90) (.tmp 92) 28 28 rfl (w.heap.size + 6) 58 58 i0 (.agg #[.bool false, .string ⟨#[]⟩]) 2 24 Tryz.underlying28 Tryz.underlying28 hi hz0 hz1 hz2 rfl (by decide) v1 l1.length _ rfl HSa0.out.own1 (some ⟨Nc, 0, none⟩) 1 1 [.bool cn, .string ctx] rfl rfl (fun _ => ⟨_, rfl, World.news_of_block HNc0.out⟩) (by intro u hu; simp at hu; rcases hu with rfl | rfl <;> rfl) (by omega) (by unfold maxLen; have := HLL.out; omega) (by have := HLL.out; omega) (by have := HSa0.out.low; omega) ?_
              intro p1 cap1 Wa1 hown1 hg1 hat1 hlt1
              have HSa1 := hid (HSa0.out.app1 (c := ⟨cn, ctx⟩) rfl hown1 hg1 hat1 (by omega) (by omega) (by omega))
              have HRa1 := hid (HRa0.out.grown hg1 (HNE.out.1))
              clear hown1 hg1 hat1 hlt1
              refine hK.out _ _ (fun _ => HRa1.out.S HSa1.out) HRa1.out.T ?_
              try simp only [Act.put, List.setIfInBounds_toArray, List.set_cons_zero, List.set_cons_succ]
              refine wpAnyB_ready (rs := [18]) (by kernel_rfl) (by simp) ?_
              refine AllReadyB.cons rfl (fun K hK => ?_) ?_
              · go_simp
                have HSa2 := hid (HSa1.out.later (Below.alloc (Below.refl _ _) (Nat.le_refl _) (.cells #[.bool dn, .string dtx] 58)) (by omega) (by omega) (by have := HSa1.out.low; omega))
                have HRa2 := hid (HRa1.out.later (Below.alloc (Below.refl _ _) (Nat.le_refl _) (.cells #[.bool dn, .string dtx] 58)))
                have HNd2 := hid (BoxN.new Wa1 #[.bool dn, .string dtx] 58)
                have hlod : W1.heap.size ≤ Wa1.heap.size := by have := HRa1.out.p.lt; omega
                refine hK.out _ _ (fun _ => HRa2.out.S HSa2.out) HRa2.out.T ?_
                try simp only [Act.put, List.setIfInBounds_toArray, List.set_cons_zero, List.set_cons_succ]
                generalize World.alloc Wa1 (.cells #[.bool dn, .string dtx] 58) = Wa2 at *
                generalize Wa1.heap.size = Nd at *
                refine wpAnyB_ready (rs := [19]) (by kernel_rfl) (by simp) ?_
                refine AllReadyB.cons rfl (fun K hK => ?_) ?_
                · refine step_append_form _ rfl (.tmp 98) (.tmp 100) 28 28 rfl (w.heap.size + 6) 58 58 i0 (.agg #[.bool false, .string ⟨#[]⟩]) 2 24 Tryz.underlying28 Tryz.underlying28 hi hz0 hz1 hz2 rfl (by decide) v2 l2.length _ rfl HSa2.out.own2 (some ⟨Nd, 0, none⟩) 1 1 [.bool dn, .string dtx] rfl rfl (fun _ => ⟨_, rfl, World.news_of_block HNd2.out⟩) (by intro u hu; simp at hu; rcases hu with rfl | rfl <;> rfl) (by omega) (by unfold maxLen; have := HLL.out; omega) (by have := HLL.out; omega) (by have := HSa2.out.low; omega) ?_
                  intro p3 cap3 Wa3 hown3 hg3 hat3 hlt3
                  have HSa3 := hid (HSa2.out.app2 (c := ⟨dn, dtx⟩) rfl hown3 hg3 hat3 (by omega) (by omega) (by omega))
                  have HRa3 := hid (HRa2.out.grown hg3 (HNE.out.2))
                  clear hown3 hg3 hat3 hlt3
                  refine hK.out _ _ (fun _ => HRa3.out.S HSa3.out) HRa3.out.T ?_
                  try simp only [Act.put, List.setIfInBounds_toArray, List.set_cons_zero, List.set_cons_succ]
                  have HTx := HRa3.out.T
                  refine wpAnyB_takeT (i := 20) (oi := ?o20_45) (v := ?v20_45) ?hi20_45 (by kernel_rfl) (by kernel_rfl) (by kernel_rfl) (by kernel_rfl) ?hq20_45 ?hy20_45 (fun _ => HRa3.out.S HSa3.out) HTx ?r20_45
                  case hi20_45 => (simp only [List.getElem?_toArray, List.getElem?_cons_zero, List.getElem?_cons_succ]; exact rfl)
                  case hq20_45 => exact fun _ _ _ h => h
                  case hy20_45 =>
                    refine Or.inl ⟨by rfl, ?_⟩
                    intro w' hSw
                    (try dsimp only at hSw)
                    first
                    | (go_simp; done)
                    | (go_simp; with_reducible rfl)
                  try simp only [Act.put, List.setIfInBounds_toArray, List.set_cons_zero, List.set_cons_succ]
                  refine wpAnyB_takeT (i := 21) (oi := ?o21_46) (v := ?v21_46) ?hi21_46 (by kernel_rfl) (by kernel_rfl) (by kernel_rfl) (by kernel_rfl) ?hq21_46 ?hy21_46 (fun _ => HRa3.out.S HSa3.out) HTx ?r21_46
                  case hi21_46 => (simp only [List.getElem?_toArray, List.getElem?_cons_zero, List.getElem?_cons_succ]; exact rfl)
                  case hq21_46 => exact fun _ _ _ h => h
                  case hy21_46 =>
                    refine Or.inl ⟨by rfl, ?_⟩
                    intro w' hSw
                    (try dsimp only at hSw)
                    first
                    | (go_simp; done)
                    | (go_simp; with_reducible rfl)
                  try simp only [Act.put, List.setIfInBounds_toArray, List.set_cons_zero, List.set_cons_succ]
                  refine wpAnyB_ready (rs := [22]) (by kernel_rfl) (by simp) ?_
                  refine AllReadyB.cons rfl (fun K hK => ?_) AllReadyB.nil
                  have cst22 := HSa3.out.row.cell 1 rfl
                  have fst22 := HSa3.out.row.frozen 1
                  go_simp
                  have HSb22 := hid (HSa3.out.put1 (by omega) (by omega) (by omega) (.slice (some ⟨p1, 0, none⟩) (l1.length + 1) cap1))
                  have HTy := HRa3.out.put (by omega) 1 (.slice (some ⟨p1, 0, none⟩) (l1.length + 1) cap1)
                  refine hK.out _ _ (fun h => absurd h (by decide)) HTy ?_
                  try simp only [Act.put, List.setIfInBounds_toArray, List.set_cons_zero, List.set_cons_succ]
                  refine wpAnyB_takeT (i := 23) (oi := ?o23_47) (v := ?v23_47) ?hi23_47 (by kernel_rfl) (by kernel_rfl) (by kernel_rfl) (by kernel_rfl) ?hq23_47 ?hy23_47 (fun h => absurd h (by decide)) HTy ?r23_47
                  case hi23_47 => (simp only [List.getElem?_toArray, List.getElem?_cons_zero, List.getElem?_cons_succ]; exact rfl)
                  case hq23_47 => exact fun _ _ _ h => h
                  case hy23_47 =>
                    refine Or.inl ⟨by rfl, ?_⟩
                    intro w' hSw
                    (try dsimp only at hSw)
                    first
                    | (go_simp; done)
                    | (go_simp; with_reducible rfl)
                  try simp only [Act.put, List.setIfInBounds_toArray, List.set_cons_zero, List.set_cons_succ]
                  refine wpAnyB_takeT (i := 24) (oi := ?o24_48) (v := ?v24_48) ?hi24_48 (by kernel_rfl) (by kernel_rfl) (by kernel_rfl) (by kernel_rfl) ?hq24_48 ?hy24_48 (fun h => absurd h (by decide)) HTy ?r24_48
                  case hi24_48 => (simp only [List.getElem?_toArray, List.getElem?_cons_zero, List.getElem?_cons_succ]; exact rfl)
                  case hq24_48 => exact fun _ _ _ h => h
                  case hy24_48 =>
                    refine Or.inl ⟨by rfl, ?_⟩
                    intro w' hSw
                    (try dsimp only at hSw)
                    first
                    | (go_simp; done)
                    | (go_simp; with_reducible rfl)
                  try simp only [Act.put, List.setIfInBounds_toArray, List.set_cons_zero, List.set_cons_succ]
                  refine wpAnyB_ready (rs := [25]) (by kernel_rfl) (by simp) ?_
                  refine AllReadyB.cons rfl (fun K hK => ?_) AllReadyB.nil
                  have cst25 := HSb22.out.row.cell 3 rfl
                  have fst25 := HSb22.out.row.frozen 3
                  go_simp
                  have HSb25 := hid (HSb22.out.put2 (by omega) (by omega) (by omega) (.slice (some ⟨p3, 0, none⟩) (l2.length + 1) cap3))
                  refine hK.out _ _ (fun h => absurd h (by decide)) (by rw [World.cell?_setCell_other _ _ _ _ (by intro e; injection e with e1; omega)]; exact HTy) ?_
                  try simp only [Act.put, List.setIfInBounds_toArray, List.set_cons_zero, List.set_cons_succ]
                  refine wpAnyB_done (by kernel_rfl) ?_ _
                  clear HTx HTy
                  go_wp2_with fail
                  go_roundg (gk - 1)
                  case rel => exact ⟨q + 1, _, _, by go_num, by omega, hid (by rw [HE1.out, HE2.out]; exact HSb25.out)⟩
                  case measure => omega
                exact AllReadyB.nil
              exact AllReadyB.nil
            refine AllReadyB.cons rfl (fun K hK => ?_) ?_
            · go_simp
              have HSa1 := hid (HSa0.out.later (Below.alloc (Below.refl _ _) (Nat.le_refl _) (.cells #[.bool dn, .string dtx] 58)) (by omega) (by omega) (by have := HSa0.out.low; omega))
              have HRa1 := hid (HRa0.out.later (Below.alloc (Below.refl _ _) (Nat.le_refl _) (.cells #[.bool dn, .string dtx] 58)))
              have HNc1 := hid (HNc0.out.alloc (.cells #[.bool dn, .string dtx] 58))
              have HNd1 := hid (BoxN.new Wa0 #[.bool dn, .string dtx] 58)
              have hlod : W1.heap.size ≤ Wa0.heap.size := by have := HRa0.out.p.lt; omega
              refine hK.out _ _ (fun _ => HRa1.out.S HSa1.out) HRa1.out.T ?_
              try simp only [Act.put, List.setIfInBounds_toArray, List.set_cons_zero, List.set_cons_succ]
              generalize World.alloc Wa0 (.cells #[.bool dn, .string dtx] 58) = Wa1 at *
              generalize Wa0.heap.size = Nd at *
              refine wpAnyB_ready (rs := [11]) (by kernel_rfl) (by simp) ?_
              refine AllReadyB.cons rfl (fun K hK => ?_) ?_
              · refine step_append_form _ rfl (.tmp 90) (.tmp 92) 28 28 rfl (w.heap.size + 6) 58 58 i0 (.agg #[.bool false, .string ⟨#[]⟩]) 2 24 Tryz.underlying28 Tryz.underlying28 hi hz0 hz1 hz2 rfl (by decide) v1 l1.length _ rfl HSa1.out.own1 (some ⟨Nc, 0, none⟩) 1 1 [.bool cn, .string ctx] rfl rfl (fun _ => ⟨_, rfl, World.news_of_block HNc1.out⟩) (by intro u hu; simp at hu; rcases hu with rfl | rfl <;> rfl) (by omega) (by unfold maxLen; have := HLL.out; omega) (by have := HLL.out; omega) (by have := HSa1.out.low; omega) ?_
                intro p2 cap2 Wa2 hown2 hg2 hat2 hlt2
                have HSa2 := hid (HSa1.out.app1 (c := ⟨cn, ctx⟩) rfl hown2 hg2 hat2 (by omega) (by omega) (by omega))
                have HRa2 := hid (HRa1.out.grown hg2 (HNE.out.1))
                have HNd2 := hid (far_box HNd1.out hg2 (HNE.out.1) (.inr hlod))
                clear hown2 hg2 hat2 hlt2
                refine hK.out _ _ (fun _ => HRa2.out.S HSa2.out) HRa2.out.T ?_
                try simp only [Act.put, List.setIfInBounds_toArray, List.set_cons_zero, List.set_cons_succ]
                refine wpAnyB_ready (rs := [19]) (by kernel_rfl) (by simp) ?_
                refine AllReadyB.cons rfl (fun K hK => ?_) ?_
                · refine step_append_form _ rfl (.tmp 98) (.tmp 100) 28 28 rfl (w.heap.size + 6) 58 58 i0 (.agg #[.bool false, .string ⟨#[]⟩]) 2 24 Tryz.underlying28 Tryz.underlying28 hi hz0 hz1 hz2 rfl (by decide) v2 l2.length _ rfl HSa2.out.own2 (some ⟨Nd, 0, none⟩) 1 1 [.bool dn, .string dtx] rfl rfl (fun _ => ⟨_, rfl, World.news_of_block HNd2.out⟩) (by intro u hu; simp at hu; rcases hu with rfl | rfl <;> rfl) (by omega) (by unfold maxLen; have := HLL.out; omega) (by have := HLL.out; omega) (by have := HSa2.out.low; omega) ?_
                  intro p3 cap3 Wa3 hown3 hg3 hat3 hlt3
                  have HSa3 := hid (HSa2.out.app2 (c := ⟨dn, dtx⟩) rfl hown3 hg3 hat3 (by omega) (by omega) (by omega))
                  have HRa3 := hid (HRa2.out.grown hg3 (HNE.out.2))
                  clear hown3 hg3 hat3 hlt3
                  refine hK.out _ _ (fun _ => HRa3.out.S HSa3.out) HRa3.out.T ?_
                  try simp only [Act.put, List.setIfInBounds_toArray, List.set_cons_zero, List.set_cons_succ]
                  have HTx := HRa3.out.T
                  refine wpAnyB_takeT (i := 20) (oi := ?o20_49) (v := ?v20_49) ?hi20_49 (by kernel_rfl) (by kernel_rfl) (by kernel_rfl) (by kernel_rfl) ?hq20_49 ?hy20_49 (fun _ => HRa3.out.S HSa3.out) HTx ?r20_49
                  case hi20_49 => (simp only [List.getElem?_toArray, List.getElem?_cons_zero, List.getElem?_cons_succ]; exact rfl)
                  case hq20_49 => exact fun _ _ _ h => h
                  case hy20_49 =>
                    refine Or.inl ⟨by rfl, ?_⟩
                    intro w' hSw
                    (try dsimp only at hSw)
                    first
                    | (go_simp; done)
                    | (go_simp; with_reducible rfl)
                  try simp only [Act.put, List.setIfInBounds_toArray, List.set_cons_zero, List.set_cons_succ]
                  refine wpAnyB_takeT (i := 21) (oi := ?o21_50) (v := ?v21_50) ?hi21_50 (by kernel_rfl) (by kernel_rfl) (by kernel_rfl) (by kernel_rfl) ?hq21_50 ?hy21_50 (fun _ => HRa3.out.S HSa3.out) HTx ?r21_50
                  case hi21_50 => (simp only [List.getElem?_toArray, List.getElem?_cons_zero, List.getElem?_cons_succ]; exact rfl)
                  case hq21_50 => exact fun _ _ _ h => h
                  case hy21_50 =>
                    refine Or.inl ⟨by rfl, ?_⟩
                    intro w' hSw
                    (try dsimp only at hSw)
                    first
                    | (go_simp; done)
                    | (go_simp; with_reducible rfl)
                  try simp only [Act.put, List.setIfInBounds_toArray, List.set_cons_zero, List.set_cons_succ]
                  refine wpAnyB_ready (rs := [22]) (by kernel_rfl) (by simp) ?_
                  refine AllReadyB.cons rfl (fun K hK => ?_) AllReadyB.nil
                  have cst22 := HSa3.out.row.cell 1 rfl
                  have fst22 := HSa3.out.row.frozen 1
                  go_simp
                  have HSb22 := hid (HSa3.out.put1 (by omega) (by omega) (by omega) (.slice (some ⟨p2, 0, none⟩) (l1.length + 1) cap2))
                  have HTy := HRa3.out.put (by omega) 1 (.slice (some ⟨p2, 0, none⟩) (l1.length + 1) cap2)
                  refine hK.out _ _ (fun h => absurd h (by decide)) HTy ?_
                  try simp only [Act.put, List.setIfInBounds_toArray, List.set_cons_zero, List.set_cons_succ]
                  refine wpAnyB_takeT (i := 23) (oi := ?o23_51) (v := ?v23_51) ?hi23_51 (by kernel_rfl) (by kernel_rfl) (by kernel_rfl) (by kernel_rfl) ?hq23_51 ?hy23_51 (fun h => absurd h (by decide)) HTy ?r23_51
                  case hi23_51 => (simp only [List.getElem?_toArray, List.getElem?_cons_zero, List.getElem?_cons_succ]; exact rfl)
                  case hq23_51 => exact fun _ _ _ h => h
                  case hy23_51 =>
                    refine Or.inl ⟨by rfl, ?_⟩
                    intro w' hSw
                    (try dsimp only at hSw)
                    first
                    | (go_simp; done)
                    | (go_simp; with_reducible rfl)
                  try simp only [Act.put, List.setIfInBounds_toArray, List.set_cons_zero, List.set_cons_succ]
                  refine wpAnyB_takeT (i := 24) (oi := ?o24_52) (v := ?v24_52) ?hi24_52 (by kernel_rfl) (by kernel_rfl) (by kernel_rfl) (by kernel_rfl) ?hq24_52 ?hy24_52 (fun h => absurd h (by decide)) HTy ?r24_52
                  case hi24_52 => (simp only [List.getElem?_toArray, List.getElem?_cons_zero, List.getElem?_cons_succ]; exact rfl)
                  case hq24_52 => exact fun _ _ _ h => h
                  case hy24_52 =>
                    refine Or.inl ⟨by rfl, ?_⟩
                    intro w' hSw
                    (try dsimp only at hSw)
                    first
                    | (go_simp; done)
                    | (go_simp; with_reducible rfl)
                  try simp only [Act.put, List.setIfInBounds_toArray, List.set_cons_zero, List.set_cons_succ]
                  refine wpAnyB_ready (rs := [25]) (by kernel_rfl) (by simp) ?_
                  refine AllReadyB.cons rfl (fun K hK => ?_) AllReadyB.nil
                  have cst25 := HSb22.out.row.cell 3 rfl
                  have fst25 := HSb22.out.row.frozen 3
                  go_simp
                  have HSb25 := hid (HSb22.out.put2 (by omega) (by omega) (by omega) (.slice (some ⟨p3, 0, none⟩) (l2.length + 1) cap3))
                  refine hK.out _ _ (fun h => absurd h (by decide)) (by rw [World.cell?_setCell_other _ _ _ _ (by intro e; injection e with e1; omega)]; exact HTy) ?_
                  try simp only [Act.put, List.setIfInBounds_toArray, List.set_cons_zero, List.set_cons_succ]
                  refine wpAnyB_done (by kernel_rfl) ?_ _
                  clear HTx HTy
                  go_wp2_with fail
                  go_roundg (gk - 1)
                  case rel => exact ⟨q + 1, _, _, by go_num, by omega, hid (by rw [HE1.out, HE2.out]; exact HSb25.out)⟩
                  case measure => omega
                exact AllReadyB.nil
              exact AllReadyB.nil
            exact AllReadyB.nil
          refine AllReadyB.cons rfl (fun K hK => ?_) ?_
          · go_simp
            have HSa0 := hid (HSTd.out.later (Below.alloc (Below.refl _ _) (Nat.le_refl _) (.cells #[.bool dn, .string dtx] 58)) (by omega) (by omega) (by have := HSTd.out.low; omega))
            have HRa0 := hid (HRGd.out.later (Below.alloc (Below.refl _ _) (Nat.le_refl _) (.cells #[.bool dn, .string dtx] 58)))
            have HNd0 := hid (BoxN.new Wd #[.bool dn, .string dtx] 58)
            have hlod : W1.heap.size ≤ Wd.heap.size := by have := HRGd.out.p.lt; omega
            refine hK.out _ _ (fun _ => HRa0.out.S HSa0.out) HRa0.out.T ?_
            try simp only [Act.put, List.setIfInBounds_toArray, List.set_cons_zero, List.set_cons_succ]
            generalize World.alloc Wd (.cells #[.bool dn, .string dtx] 58) = Wa0 at *
            generalize Wd.heap.size = Nd at *
            refine wpAnyB_ready (rs := [10]) (by kernel_rfl) (by simp) ?_
            refine AllReadyB.cons rfl (fun K hK => ?_) ?_
            · go_simp
              have HSa1 := hid (HSa0.out.later (Below.alloc (Below.refl _ _) (Nat.le_refl _) (.cells #[.bool cn, .string ctx] 58)) (by omega) (by omega) (by have := HSa0.out.low; omega))
              have HRa1 := hid (HRa0.out.later (Below.alloc (Below.refl _ _) (Nat.le_refl _) (.cells #[.bool cn, .string ctx] 58)))
              have HNd1 := hid (HNd0.out.alloc (.cells #[.bool cn, .string ctx] 58))
              have HNc1 := hid (BoxN.new Wa0 #[.bool cn, .string ctx] 58)
              have hloc : W1.heap.size ≤ Wa0.heap.size := by have := HRa0.out.p.lt; omega
              refine hK.out _ _ (fun _ => HRa1.out.S HSa1.out) HRa1.out.T ?_
              try simp only [Act.put, List.setIfInBounds_toArray, List.set_cons_zero, List.set_cons_succ]
              generalize World.alloc Wa0 (.cells #[.bool cn, .string ctx] 58) = Wa1 at *
              generalize Wa0.heap.size = Nc at *
              refine wpAnyB_ready (rs := [11]) (by kernel_rfl) (by simp) ?_
              refine AllReadyB.cons rfl (fun K hK => ?_) ?_
              · refine step_append_form _ rfl (.tmp 90) (.tmp 92) 28 28 rfl (w.heap.size + 6) 58 58 i0 (.agg #[.bool false, .string ⟨#[]⟩]) 2 24 Tryz.underlying28 Tryz.underlying28 hi hz0 hz1 hz2 rfl (by decide) v1 l1.length _ rfl HSa1.out.own1 (some ⟨Nc, 0, none⟩) 1 1 [.bool cn, .string ctx] rfl rfl (fun _ => ⟨_, rfl, World.news_of_block HNc1.out⟩) (by intro u hu; simp at hu; rcases hu with rfl | rfl <;> rfl) (by omega) (by unfold maxLen; have := HLL.out; omega) (by have := HLL.out; omega) (by have := HSa1.out.low; omega) ?_
                intro p2 cap2 Wa2 hown2 hg2 hat2 hlt2
                have HSa2 := hid (HSa1.out.app1 (c := ⟨cn, ctx⟩) rfl hown2 hg2 hat2 (by omega) (by omega) (by omega))
                have HRa2 := hid (HRa1.out.grown hg2 (HNE.out.1))
                have HNd2 := hid (far_box HNd1.out hg2 (HNE.out.1) (.inr hlod))
                clear hown2 hg2 hat2 hlt2
                refine hK.out _ _ (fun _ => HRa2.out.S HSa2.out) HRa2.out.T ?_
                try simp only [Act.put, List.setIfInBounds_toArray, List.set_cons_zero, List.set_cons_succ]
                refine wpAnyB_ready (rs := [19]) (by kernel_rfl) (by simp) ?_
                refine AllReadyB.cons rfl (fun K hK => ?_) ?_
                · refine step_append_form _ rfl (.tmp 98) (.tmp 100) 28 28 rfl (w.heap.size + 6) 58 58 i0 (.agg #[.bool false, .string ⟨#[]⟩]) 2 24 Tryz.underlying28 Tryz.underlying28 hi hz0 hz1 hz2 rfl (by decide) v2 l2.length _ rfl HSa2.out.own2 (some ⟨Nd, 0, none⟩) 1 1 [.bool dn, .string dtx] rfl rfl (fun _ => ⟨_, rfl, World.news_of_block HNd2.out⟩) (by intro u hu; simp at hu; rcases hu with rfl | rfl <;> rfl) (by omega) (by unfold maxLen; have := HLL.out; omega) (by have := HLL.out; omega) (by have := HSa2.out.low; omega) ?_
                  intro p3 cap3 Wa3 hown3 hg3 hat3 hlt3
                  have HSa3 := hid (HSa2.out.app2 (c := ⟨dn, dtx⟩) rfl hown3 hg3 hat3 (by omega) (by omega) (by omega))
                  have HRa3 := hid (HRa2.out.grown hg3 (HNE.out.2))
                  clear hown3 hg3 hat3 hlt3
                  refine hK.out _ _ (fun _ => HRa3.out.S HSa3.out) HRa3.out.T ?_
                  try simp only [Act.put, List.setIfInBounds_toArray, List.set_cons_zero, List.set_cons_succ]
                  have HTx := HRa3.out.T
                  refine wpAnyB_takeT (i := 20) (oi := ?o20_53) (v := ?v20_53) ?hi20_53 (by kernel_rfl) (by kernel_rfl) (by kernel_rfl) (by kernel_rfl) ?hq20_53 ?hy20_53 (fun _ => HRa3.out.S HSa3.out) HTx ?r20_53
                  case hi20_53 => (simp only [List.getElem?_toArray, List.getElem?_cons_zero, List.getElem?_cons_succ]; exact rfl)
                  case hq20_53 => exact fun _ _ _ h => h
                  case hy20_53 =>
                    refine Or.inl ⟨by rfl, ?_⟩
                    intro w' hSw
                    (try dsimp only at hSw)
                    first
                    | (go_simp; done)
                    | (go_simp; with_reducible rfl)
                  try simp only [Act.put, List.setIfInBounds_toArray, List.set_cons_zero, List.set_cons_succ]
                  refine wpAnyB_takeT (i := 21) (oi := ?o21_54) (v := ?v21_54) ?hi21_54 (by kernel_rfl) (by kernel_rfl) (by kernel_rfl) (by kernel_rfl) ?hq21_54 ?hy21_54 (fun _ => HRa3.out.S HSa3.out) HTx ?r21_54
                  case hi21_54 => (simp only [List.getElem?_toArray, List.getElem?_cons_zero, List.getElem?_cons_succ]; exact rfl)
                  case hq21_54 => exact fun _ _ _ h => h
                  case hy21_54 =>
                    refine Or.inl ⟨by rfl, ?_⟩
                    intro w' hSw
                    (try dsimp only at hSw)
                    first
                    | (go_simp; done)
                    | (go_simp; with_reducible rfl)
                  try simp only [Act.put, List.setIfInBounds_toArray, List.set_cons_zero, List.set_cons_succ]
                  refine wpAnyB_ready (rs := [22]) (by kernel_rfl) (by simp) ?_
                  refine AllReadyB.cons rfl (fun K hK => ?_) AllReadyB.nil
                  have cst22 := HSa3.out.row.cell 1 rfl
                  have fst22 := HSa3.out.row.frozen 1
                  go_simp
                  have HSb22 := hid (HSa3.out.put1 (by omega) (by omega) (by omega) (.slice (some ⟨p2, 0, none⟩) (l1.length + 1) cap2))
                  have HTy := HRa3.out.put (by omega) 1 (.slice (some ⟨p2, 0, none⟩) (l1.length + 1) cap2)
                  refine hK.out _ _ (fun h => absurd h (by decide)) HTy ?_
                  try simp only [Act.put, List.setIfInBounds_toArray, List.set_cons_zero, List.set_cons_succ]
                  refine wpAnyB_takeT (i := 23) (oi := ?o23_55) (v := ?v23_55) ?hi23_55 (by kernel_rfl) (by kernel_rfl) (by kernel_rfl) (by kernel_rfl) ?hq23_55 ?hy23_55 (fun h => absurd h (by decide)) HTy ?r23_55
                  case hi23_55 => (simp only [List.getElem?_toArray, List.getElem?_cons_zero, List.getElem?_cons_succ]; exact rfl)
                  case hq23_55 => exact fun _ _ _ h => h
                  case hy23_55 =>
                    refine Or.inl ⟨by rfl, ?_⟩
                    intro w' hSw
                    (try dsimp only at hSw)
                    first
                    | (go_simp; done)
                    | (go_simp; with_reducible rfl)
                  try simp only [Act.put, List.setIfInBounds_toArray, List.set_cons_zero, List.set_cons_succ]
                  refine wpAnyB_takeT (i := 24) (oi := ?o24_56) (v := ?v24_56) ?hi24_56 (by kernel_rfl) (by kernel_rfl) (by kernel_rfl) (by kernel_rfl) ?hq24_56 ?hy24_56 (fun h => absurd h (by decide)) HTy ?r24_56
                  case hi24_56 => (simp only [List.getElem?_toArray, List.getElem?_cons_zero, List.getElem?_cons_succ]; exact rfl)
                  case hq24_56 => exact fun _ _ _ h => h
                  case hy24_56 =>
                    refine Or.inl ⟨by rfl, ?_⟩
                    intro w' hSw
                    (try dsimp only at hSw)
                    first
                    | (go_simp; done)
                    | (go_simp; with_reducible rfl)
                  try simp only [Act.put, List.setIfInBounds_toArray, List.set_cons_zero, List.set_cons_succ]
                  refine wpAnyB_ready (rs := [25]) (by kernel_rfl) (by simp) ?_
                  refine AllReadyB.cons rfl (fun K hK => ?_) AllReadyB.nil
                  have cst25 := HSb22.out.row.cell 3 rfl
                  have fst25 := HSb22.out.row.frozen 3
                  go_simp
                  have HSb25 := hid (HSb22.out.put2 (by omega) (by omega) (by omega) (.slice (some ⟨p3, 0, none⟩) (l2.length + 1) cap3))
                  refine hK.out _ _ (fun h => absurd h (by decide)) (by rw [World.cell?_setCell_other _ _ _ _ (by intro e; injection e with e1; omega)]; exact HTy) ?_
                  try simp only [Act.put, List.setIfInBounds_toArray, List.set_cons_zero, List.set_cons_succ]
                  refine wpAnyB_done (by kernel_rfl) ?_ _
                  clear HTx HTy
                  go_wp2_with fail
                  go_roundg (gk - 1)
                  case rel => exact ⟨q + 1, _, _, by go_num, by omega, hid (by rw [HE1.out, HE2.out]; exact HSb25.out)⟩
                  case measure => omega
                exact AllReadyB.nil
              exact AllReadyB.nil
            exact AllReadyB.nil
          exact AllReadyB.nil
      · obtain rfl : gk = 0 := by omega
        obtain rfl : q = sn := by omega
        go_wp2_with fail
        have HWE := hid (show PassSt w W0 wr (w.heap.size + 4) w.heap.size (w.heap.size + 6) 65 (cntA A) ⟨#[110]⟩ ⟨#[109]⟩ v1 v2 v1 v2 (A.map pC) (A.map qC) by
          have h := HST.out
          rw [show A.take q = A from List.take_of_length_le (by have := HA.out.len; omega)] at h
          exact h)
        clear HST
        obtain ⟨We, rfl⟩ : ∃ We, We = wr := ⟨wr, rfl⟩
        have HWK := hid (fun k (h1 : k < w.heap.size + 6) h2 h3 => HWE.out.keep k h1 h2 h3)
        have HTBE := hid (show BoxN We (w.heap.size + 3) 24 #[.int .i64 2, .string ⟨#[]⟩, .slice (some ⟨w.heap.size + 1, 0, none⟩) 2 2] from (HWK.out _ (by omega) (by omega) (by omega)).trans HBG.out.tabB)
        have HRB := hid (show BoxN We (w.heap.size + 1) 30 #[.string ⟨#[109]⟩, .slice none 0 0, .string ⟨#[110]⟩, .slice none 0 0] from (HWK.out _ (by omega) (by omega) (by omega)).trans HBG.out.rowB)
        have HLI := hid (show BoxN We (w.heap.size + 5) 63 #[.slice sa q sc, .slice sb tn tc] from (HWK.out _ (by omega) (by omega) (by omega)).trans HBG.out.list)
        have HTA := hid (show BoxN We (w.heap.size + 2) 24 #[.int .i64 1, .string ⟨#[]⟩, .slice (some ⟨w.heap.size, 0, none⟩) 2 2] from (HWK.out _ (by omega) (by omega) (by omega)).trans HBG.out.tabA)
        have hwez := HWE.out.low
        have l0 := HLI.out.cell 0 rfl
        have l1 := HLI.out.cell 1 rfl
        clear HTB hp
        rw [rounds_succ]
        go_wp2_with fail
        have HTB := hid (fun W (h : ∀ k, k < We.heap.size → k ≠ w.heap.size + 4 → k ≠ w.heap.size + 1 → W.heap[k]? = We.heap[k]?) => (show BoxN W (w.heap.size + 3) 24 #[(.int .i64 2), .string ⟨#[]⟩, .slice (some ⟨w.heap.size + 1, 0, none⟩) 2 2] from (h (w.heap.size + 3) (by omega) (by omega) (by omega)).trans HTBE.out))
        go_loopg [46] tn (fun N i wr => ∃ (q : Nat) (v1 v2 : Value), i = .int .i64 (q : Int) ∧ q + N = tn ∧ Hid (PassSt w We wr (w.heap.size + 4) (w.heap.size + 1) We.heap.size 65 (cntB A (B.take q)) ⟨#[109]⟩ ⟨#[110]⟩ v1 v2 v1 v2 ((B.take q).map qC) ((B.take q).map pC)))
        case atStart => exact ⟨0, .slice none 0 0, .slice none 0 0, rfl, by omega, hid (pass_begin HWE.out.bel (by omega) (by rw [show B.take 0 = [] from rfl, cntB_nil]; exact HWE.out.cnts) HRB.out)⟩
        case round =>
          obtain ⟨q, v1, v2, rfl, hq, HST⟩ := hrel
          by_cases hp : 0 < gk
          · obtain ⟨b, o, rfl, hb, hcell⟩ := HB.out.at_ (by omega)
            have k1 := (HST.out.bel.cell (p := ⟨b, o + q, none⟩) hb).trans (hcell q (by omega))
            have hlt := HB.out.lt q
            have HTK := hid (take_snoc (A := B) (q := q) (by have := HB.out.len; omega))
            have HLQ : Hid ((B.take q).length = q) := hid (by rw [List.length_take]; have := HB.out.len; omega)
            have r9 : Int.tmod ((B.getD q 0 : Nat) : Int) 9 = ((B.getD q 0 % 9 : Nat) : Int) := by rw [Int.tmod_eq_emod_of_nonneg (by omega)]; omega
            have hv9 : B.getD q 0 % 9 < 9 := Nat.mod_lt _ (by omega)
            clear hcell
            have n0 := HST.out.cnts.cell (i := 9 + B.getD q 0 % 9) (by omega)
            have nf0 := HST.out.cnts.frozen (9 + B.getD q 0 % 9)
            have HCL : Hid (cntB A (B.take q) (9 + B.getD q 0 % 9) ≤ 30) := hid (by
              unfold cntB
              rw [if_neg (by omega), Nat.add_sub_cancel_left]
              exact Nat.le_trans (cnt9_le _ _) (by rw [List.length_take]; omega))
            generalize B.getD q 0 = v at *
            generalize hvm : v % 9 = m9 at *
            generalize hcm : cntB A (B.take q) (9 + m9) = cm at *
            have hcm30 := HCL.out
            go_upto_region 11 with fail
            have HST1 : Hid (PassSt w We (wr.setCell ⟨w.heap.size + 4, 9 + m9, none⟩ (.int .i64 ((cm : Int) + 1))).drew (w.heap.size + 4) (w.heap.size + 1) We.heap.size 65 (cntB A (B.take (q + 1))) ⟨#[109]⟩ ⟨#[110]⟩ v1 v2 v1 v2 ((B.take q).map qC) ((B.take q).map pC)) := hid (by
              have h := (HST.out.count (by omega) (by omega) (by omega) (9 + m9) (cm + 1)).later (W' := (wr.setCell ⟨w.heap.size + 4, 9 + m9, none⟩ (.int .i64 ((cm + 1 : Nat) : Int))).drew) (by have h1 := Below.refl (wr.setCell ⟨w.heap.size + 4, 9 + m9, none⟩ (.int .i64 ((cm + 1 : Nat) : Int))).heap.size (wr.setCell ⟨w.heap.size + 4, 9 + m9, none⟩ (.int .i64 ((cm + 1 : Nat) : Int))); repeat' (first | (with_reducible exact Below.refl _ _) | (with_reducible assumption) | (with_reducible refine below_drewN ?_) | (with_reducible refine Below.alloc ?_ ?_ _) | (with_reducible refine Below.drew ?_) | (with_reducible refine Below.setCell ?_ ?_ _) | (with_reducible refine Below.trans ?_ (Below.mono (by with_reducible assumption) ?_)) | go_size)) (by omega) (by omega) (by have := HST.out.bel.size; simpa using this)
              rw [show ((cm + 1 : Nat) : Int) = (cm : Int) + 1 by omega] at h
              have e : (fun i => if i = 9 + m9 then cm + 1 else cntB A (B.take q) i) = cntB A (B.take (q + 1)) := by
                funext i
                rw [HTK.out]
                exact cntB_step hvm hv9 hcm i
              rw [e] at h
              exact h)
            go_region
            clear n0 nf0 k1 r9
            generalize (wr.setCell ⟨w.heap.size + 1 + 1 + 1 + 1, 9 + m9, none⟩ (.int .i64 ((cm : Int) + 1))).drew = W1 at *
            have r3 : Int.tmod ((v : Nat) : Int) 3 = ((v % 3 : Nat) : Int) := by rw [Int.tmod_eq_emod_of_nonneg (by omega)]; omega
            have rd : Int.tdiv ((v : Nat) : Int) 3 = ((v / 3 : Nat) : Int) := by rw [Int.tdiv_eq_ediv_of_nonneg (by omega)]; omega
            have rq : Int.tmod ((v / 3 : Nat) : Int) 3 = ((v / 3 % 3 : Nat) : Int) := by rw [Int.tmod_eq_emod_of_nonneg (by omega)]; omega
            have hp3 : v % 3 < 3 := Nat.mod_lt _ (by omega)
            have hq3 : v / 3 % 3 < 3 := Nat.mod_lt _ (by omega)
            have HPC : Hid (pC v = ⟨false, ⟨#[UInt8.ofNat (97 + v % 3)]⟩⟩) := hid rfl
            have HQC : Hid (qC v = if v / 3 % 3 = 0 then ⟨true, ⟨#[]⟩⟩ else ⟨false, ⟨#[UInt8.ofNat (97 + v / 3 % 3)]⟩⟩) := hid rfl
            have hconv : ∀ (W : World) (b x : Nat), W.cell? ⟨b, 0, none⟩ = some (.int .u8 (97 + (x : Int))) → (convert 63 9 (.slice (some ⟨b, 0, none⟩) 1 1)).run Tryz.prog W = .ok (.string ⟨#[UInt8.ofNat (97 + x)]⟩) W := fun W b x h => by
              have hcl : ∀ i, i < 1 → W.cell? ⟨b, 0 + i, none⟩ = some (.int .u8 ([97 + (x : Int)].getD i 0)) := fun i hi => by
                obtain rfl : i = 0 := by omega
                exact h
              rw [run_convert_bytes_arg W 63 5 Tryz.underlying63 Tryz.underlying5 b 0 1 1 [97 + (x : Int)] rfl hcl 9 Tryz.underlying9]
              have : (97 + (x : Int)).toNat = 97 + x := by omega
              simp [strOfNums, this]
            have hd256 : v / 3 < 256 := by omega
            generalize hqe : v / 3 % 3 = q3 at *
            generalize v / 3 = d3 at *
            generalize v % 3 = p3 at *
            have hw1 : IntKind.u8.wrap (p3 : Int) = (p3 : Int) := by rw [IntKind.wrap_u8]; omega
            have hw2 : IntKind.u8.wrap (97 + (p3 : Int)) = 97 + (p3 : Int) := by rw [IntKind.wrap_u8]; omega
            have hw3 : IntKind.u8.wrap (97 + (q3 : Int)) = 97 + (q3 : Int) := by rw [IntKind.wrap_u8]; omega
            have hnew : ∀ (W : World) (x : Nat) (t : TypeId), (W.alloc (.cells #[.int .u8 (97 + (x : Int))] t)).cell? ⟨W.heap.size, 0, none⟩ = some (.int .u8 (97 + (x : Int))) := fun W x t => World.cell?_alloc_at _ _ _ _ rfl
            have hcx := fun (W : World) (x : Nat) (t : TypeId) => hconv _ _ x (hnew W x t)
            go_upto_if 72 with fail
            go_cut [13] from 47 to 130 (fun s13 wx => s13 = .pointer (some ⟨W1.heap.size + 1 + 1, 0, none⟩) ∧ Hid (QBox W1 wx (pC v) (qC v)))
            case first =>
              by_cases hz : q3 = 0
              · subst hz
                go_wp2_with fail
                go_meet
                exact ⟨rfl, hid (qbox_at W1 _ _ _ (pC v) (qC v) (by rw [HPC.out]; simp [UInt8.ofNat_add]) (by rw [HQC.out]; simp))⟩
              · have hb0 : ((q3 : Int) == 0) = false := by simp; omega
                have hb1 : ¬ (q3 : Int) = 0 := by omega
                have hcy : (convert 63 9 (.slice (some ⟨W1.heap.size + 1 + 1 + 1, 0, none⟩) 1 1)).run Tryz.prog ((((W1.alloc (.cells #[.int .u8 (97 + (p3 : Int))] 5)).alloc (.cells #[.bool false, .string ⟨#[97 + UInt8.ofNat p3]⟩] 58)).alloc (.cells #[.bool false, .string ⟨#[]⟩] 58)).alloc (.cells #[.int .u8 (97 + (q3 : Int))] 5)) = .ok (.string ⟨#[UInt8.ofNat (97 + q3)]⟩) ((((W1.alloc (.cells #[.int .u8 (97 + (p3 : Int))] 5)).alloc (.cells #[.bool false, .string ⟨#[97 + UInt8.ofNat p3]⟩] 58)).alloc (.cells #[.bool false, .string ⟨#[]⟩] 58)).alloc (.cells #[.int .u8 (97 + (q3 : Int))] 5)) := by
                  refine hconv _ _ q3 ?_
                  have h := hnew (((W1.alloc (.cells #[.int .u8 (97 + (p3 : Int))] 5)).alloc (.cells #[.bool false, .string ⟨#[97 + UInt8.ofNat p3]⟩] 58)).alloc (.cells #[.bool false, .string ⟨#[]⟩] 58)) q3 5
                  simpa using h
                go_wp2_with fail
                rotate_left
                · rename_i hx
                  rw [hb0] at hx
                  cases hx
                go_meet
                exact ⟨rfl, hid ((qbox_at W1 _ _ _ (pC v) (qC v) (by rw [HPC.out]; simp [UInt8.ofNat_add]) (by rw [HQC.out, if_neg hz]; simp [UInt8.ofNat_add])).alloc _)⟩
            case rest =>
              obtain ⟨rfl, HQB⟩ := hcut
              clear hcx hnew hconv r3 rd rq hw1 hw2 hw3
              obtain ⟨W2, rfl⟩ : ∃ W2, W2 = wc := ⟨wc, rfl⟩
              have HST2 := hid (HST1.out.later HQB.out.bel (by omega) (by omega) (by have := HST1.out.bel.size; omega))
              have HRG : Hid (Reg We.heap.size W1.heap.size W2 (w.heap.size + 3) (w.heap.size + 1) (W1.heap.size + 1) (W1.heap.size + 2) (.int .i64 2) (.string ⟨#[]⟩) (pC v) (qC v)) := hid ⟨(HTB.out _ HST2.out.keep), HQB.out.p, HQB.out.q, by omega, by omega, by omega⟩
              have HNE := hid (And.intro (own_far HST1.out.own1 (Nat.le_refl _)) (own_far HST1.out.own2 (Nat.le_refl _)))
              have HLL : Hid (((B.take q).map qC).length ≤ 30 ∧ ((B.take q).map pC).length ≤ 30) := hid (by rw [List.length_map, List.length_map, HLQ.out]; omega)
              generalize hl1 : (B.take q).map qC = l1 at *
              generalize hl2 : (B.take q).map pC = l2 at *
              clear HPC HQC
              generalize hcc : pC v = c at *
              generalize hdd : qC v = d at *
              obtain ⟨cn, ctx⟩ := c
              obtain ⟨dn, dtx⟩ := d
              have HCC := hid hcc
              have HDD := hid hdd
              clear hcc hdd
              have HL1 := hid hl1
              have HL2 := hid hl2
              clear hl1 hl2
              have HE1 : Hid ((B.take (q + 1)).map qC = l1 ++ [⟨dn, dtx⟩]) := hid (by rw [HTK.out, List.map_append, HL1.out, List.map_singleton, HDD.out])
              have HE2 : Hid ((B.take (q + 1)).map pC = l2 ++ [⟨cn, ctx⟩]) := hid (by rw [HTK.out, List.map_append, HL2.out, List.map_singleton, HCC.out])
              have hsz2 := HQB.out.p.lt
              have hbz1 := HST1.out.low
              go_upto_region 17 with fail
              obtain ⟨i0, hi, hz0, hz1, hz2⟩ := info_parts info_cell
              have HSTd := hid (HST2.out.later (W' := W2.drew) (by have h1 := Below.refl W2.heap.size W2; repeat' (first | (with_reducible exact Below.refl _ _) | (with_reducible assumption) | (with_reducible refine below_drewN ?_) | (with_reducible refine Below.alloc ?_ ?_ _) | (with_reducible refine Below.drew ?_) | (with_reducible refine Below.setCell ?_ ?_ _) | (with_reducible refine Below.trans ?_ (Below.mono (by with_reducible assumption) ?_)) | go_size)) (by omega) (by omega) (by have := HST2.out.bel.size; omega))
              have HRGd := hid (HRG.out.later (W' := W2.drew) (by have h1 := Below.refl W2.heap.size W2; repeat' (first | (with_reducible exact Below.refl _ _) | (with_reducible assumption) | (with_reducible refine below_drewN ?_) | (with_reducible refine Below.alloc ?_ ?_ _) | (with_reducible refine Below.drew ?_) | (with_reducible refine Below.setCell ?_ ?_ _) | (with_reducible refine Below.trans ?_ (Below.mono (by with_reducible assumption) ?_)) | go_size)))
              have HTw := HRGd.out.T
              have HSw := HRGd.out.S HSTd.out
              dsimp only at HTw HSw
              refine wp_region_before (st := 22) (T := fun w' => w'.cell? ⟨w.heap.size + 1 + 1 + 1, 2, none⟩ = some (.slice (some ⟨w.heap.size + 1, 0, none⟩) 2 2)) (S := fun w' => w'.cell? ⟨w.heap.size + 1, 1, none⟩ = some v1 ∧ w'.cell? ⟨w.heap.size + 1, 3, none⟩ = some v2 ∧ w'.cell? ⟨W1.heap.size + 1, 0, none⟩ = some (.bool cn) ∧ w'.cell? ⟨W1.heap.size + 1, 1, none⟩ = some (.string ctx) ∧ w'.cell? ⟨W1.heap.size + 1 + 1, 0, none⟩ = some (.bool dn) ∧ w'.cell? ⟨W1.heap.size + 1 + 1, 1, none⟩ = some (.string dtx)) (by kernel_rfl) ?_
              generalize W2.drew = Wd at *
              refine wpAnyB_takeT (i := 0) (oi := ?o0_1) (v := ?v0_1) ?hi0_1 (by kernel_rfl) (by kernel_rfl) (by kernel_rfl) (by kernel_rfl) ?hq0_1 ?hy0_1 (fun _ => HSw) HTw ?r0_1
              case hi0_1 => (simp only [List.getElem?_toArray, List.getElem?_cons_zero, List.getElem?_cons_succ]; exact rfl)
              case hq0_1 => exact fun _ _ _ h => h
              case hy0_1 =>
                refine Or.inl ⟨by rfl, ?_⟩
                intro w' hSw
                (try dsimp only at hSw)
                first
                | (go_simp; done)
                | (go_simp; with_reducible rfl)
              try simp only [Act.put, List.setIfInBounds_toArray, List.set_cons_zero, List.set_cons_succ]
              refine wpAnyB_takeT (i := 1) (oi := ?o1_2) (v := ?v1_2) ?hi1_2 (by kernel_rfl) (by kernel_rfl) (by kernel_rfl) (by kernel_rfl) ?hq1_2 ?hy1_2 (fun _ => HSw) HTw ?r1_2
              case hi1_2 => (simp only [List.getElem?_toArray, List.getElem?_cons_zero, List.getElem?_cons_succ]; exact rfl)
              case hq1_2 => exact fun _ _ _ h => h
              case hy1_2 =>
                refine Or.inl ⟨by rfl, ?_⟩
                intro w' hSw
                (try dsimp only at hSw)
                first
                | (go_simp; done)
                | (go_simp; with_reducible rfl)
              try simp only [Act.put, List.setIfInBounds_toArray, List.set_cons_zero, List.set_cons_succ]
              refine wpAnyB_takeT (i := 2) (oi := ?o2_3) (v := ?v2_3) ?hi2_3 (by kernel_rfl) (by kernel_rfl) (by kernel_rfl) (by kernel_rfl) ?hq2_3 ?hy2_3 (fun _ => HSw) HTw ?r2_3
              case hi2_3 => (simp only [List.getElem?_toArray, List.getElem?_cons_zero, List.getElem?_cons_succ]; exact rfl)
              case hq2_3 => exact fun _ _ _ h => h
              case hy2_3 =>
                refine Or.inl ⟨by rfl, ?_⟩
                intro w' hSw
                (try dsimp only at hSw)
                first
                | (go_simp; done)
                | (go_simp; with_reducible rfl)
              try simp only [Act.put, List.setIfInBounds_toArray, List.set_cons_zero, List.set_cons_succ]
              refine wpAnyB_takeT (i := 3) (oi := ?o3_4) (v := ?v3_4) ?hi3_4 (by kernel_rfl) (by kernel_rfl) (by kernel_rfl) (by kernel_rfl) ?hq3_4 ?hy3_4 (fun _ => HSw) HTw ?r3_4
              case hi3_4 => (simp only [List.getElem?_toArray, List.getElem?_cons_zero, List.getElem?_cons_succ]; exact rfl)
              case hq3_4 => exact fun _ _ _ h => h
              case hy3_4 =>
                refine Or.inl ⟨by rfl, ?_⟩
                intro w' hSw
                (try dsimp only at hSw)
                first
                | (go_simp; done)
                | (go_simp; with_reducible rfl)
              try simp only [Act.put, List.setIfInBounds_toArray, List.set_cons_zero, List.set_cons_succ]
              refine wpAnyB_takeT (i := 4) (oi := ?o4_5) (v := ?v4_5) ?hi4_5 (by kernel_rfl) (by kernel_rfl) (by kernel_rfl) (by kernel_rfl) ?hq4_5 ?hy4_5 (fun _ => HSw) HTw ?r4_5
              case hi4_5 => (simp only [List.getElem?_toArray, List.getElem?_cons_zero, List.getElem?_cons_succ]; exact rfl)
              case hq4_5 => exact fun _ _ _ h => h
              case hy4_5 =>
                refine Or.inl ⟨by rfl, ?_⟩
                intro w' hSw
                (try dsimp only at hSw)
                first
                | (go_simp; done)
                | (go_simp; with_reducible rfl)
              try simp only [Act.put, List.setIfInBounds_toArray, List.set_cons_zero, List.set_cons_succ]
              refine wpAnyB_takeT (i := 5) (oi := ?o5_6) (v := ?v5_6) ?hi5_6 (by kernel_rfl) (by kernel_rfl) (by kernel_rfl) (by kernel_rfl) ?hq5_6 ?hy5_6 (fun _ => HSw) HTw ?r5_6
              case hi5_6 => (simp only [List.getElem?_toArray, List.getElem?_cons_zero, List.getElem?_cons_succ]; exact rfl)
              case hq5_6 => exact fun _ _ _ h => h
              case hy5_6 =>
                refine Or.inl ⟨by rfl, ?_⟩
                intro w' hSw
                (try dsimp only at hSw)
                first
                | (go_simp; done)
                | (go_simp; with_reducible rfl)
              try simp only [Act.put, List.setIfInBounds_toArray, List.set_cons_zero, List.set_cons_succ]
              refine wpAnyB_takeT (i := 6) (oi := ?o6_7) (v := ?v6_7) ?hi6_7 (by kernel_rfl) (by kernel_rfl) (by kernel_rfl) (by kernel_rfl) ?hq6_7 ?hy6_7 (fun _ => HSw) HTw ?r6_7
              case hi6_7 => (simp only [List.getElem?_toArray, List.getElem?_cons_zero, List.getElem?_cons_succ]; exact rfl)
              case hq6_7 => exact fun _ _ _ h => h
              case hy6_7 =>
                refine Or.inl ⟨by rfl, ?_⟩
                intro w' hSw
                (try dsimp only at hSw)
                first
                | (go_simp; done)
                | (go_simp; with_reducible rfl)
              try simp only [Act.put, List.setIfInBounds_toArray, List.set_cons_zero, List.set_cons_succ]
              refine wpAnyB_takeT (i := 7) (oi := ?o7_8) (v := ?v7_8) ?hi7_8 (by kernel_rfl) (by kernel_rfl) (by kernel_rfl) (by kernel_rfl) ?hq7_8 ?hy7_8 (fun _ => HSw) HTw ?r7_8
              case hi7_8 => (simp only [List.getElem?_toArray, List.getElem?_cons_zero, List.getElem?_cons_succ]; exact rfl)
              case hq7_8 => exact fun _ _ _ h => h
              case hy7_8 =>
                refine Or.inl ⟨by rfl, ?_⟩
                intro w' hSw
                (try dsimp only at hSw)
                first
                | (go_simp; done)
                | (go_simp; with_reducible rfl)
              try simp only [Act.put, List.setIfInBounds_toArray, List.set_cons_zero, List.set_cons_succ]
              refine wpAnyB_take (i := 8) (oi := ?o8_9) (v := ?v8_9) ?hi8_9 (by kernel_rfl) (by kernel_rfl) (by kernel_rfl) [22, 11] (by kernel_rfl) ?hq8_9 ?hy8_9 HSw HTw ?r8_9
              case hi8_9 => (simp only [List.getElem?_toArray, List.getElem?_cons_zero, List.getElem?_cons_succ]; exact rfl)
              case hq8_9 => exact fun _ _ _ h => h
              case hy8_9 =>
                refine Or.inl ⟨by rfl, ?_⟩
                intro w' hSw
                (try dsimp only at hSw)
                first
                | (go_simp; done)
                | (go_simp; with_reducible rfl)
              try simp only [Act.put, List.setIfInBounds_toArray, List.set_cons_zero, List.set_cons_succ]
              refine wpAnyB_take (i := 9) (oi := ?o9_10) (v := ?v9_10) ?hi9_10 (by kernel_rfl) (by kernel_rfl) (by kernel_rfl) [22, 11, 10] (by kernel_rfl) ?hq9_10 ?hy9_10 HSw HTw ?r9_10
              case hi9_10 => (simp only [List.getElem?_toArray, List.getElem?_cons_zero, List.getElem?_cons_succ]; exact rfl)
              case hq9_10 => exact fun _ _ _ h => h
              case hy9_10 =>
                refine Or.inl ⟨by rfl, ?_⟩
                intro w' hSw
                (try dsimp only at hSw)
                first
                | (go_simp; done)
                | (go_simp; with_reducible rfl)
              try simp only [Act.put, List.setIfInBounds_toArray, List.set_cons_zero, List.set_cons_succ]
              refine wpAnyB_takeT (i := 12) (oi := ?o12_11) (v := ?v12_11) ?hi12_11 (by kernel_rfl) (by kernel_rfl) (by kernel_rfl) (by kernel_rfl) ?hq12_11 ?hy12_11 (fun _ => HSw) HTw ?r12_11
              case hi12_11 => (simp only [List.getElem?_toArray, List.getElem?_cons_zero, List.getElem?_cons_succ]; exact rfl)
              case hq12_11 => exact fun _ _ _ h => h
              case hy12_11 =>
                refine Or.inl ⟨by rfl, ?_⟩
                intro w' hSw
                (try dsimp only at hSw)
                first
                | (go_simp; done)
                | (go_simp; with_reducible rfl)
              try simp only [Act.put, List.setIfInBounds_toArray, List.set_cons_zero, List.set_cons_succ]
              refine wpAnyB_takeT (i := 13) (oi := ?o13_12) (v := ?v13_12) ?hi13_12 (by kernel_rfl) (by kernel_rfl) (by kernel_rfl) (by kernel_rfl) ?hq13_12 ?hy13_12 (fun _ => HSw) HTw ?r13_12
              case hi13_12 => (simp only [List.getElem?_toArray, List.getElem?_cons_zero, List.getElem?_cons_succ]; exact rfl)
              case hq13_12 => exact fun _ _ _ h => h
              case hy13_12 =>
                refine Or.inl ⟨by rfl, ?_⟩
                intro w' hSw
                (try dsimp only at hSw)
                first
                | (go_simp; done)
                | (go_simp; with_reducible rfl)
              try simp only [Act.put, List.setIfInBounds_toArray, List.set_cons_zero, List.set_cons_succ]
              refine wpAnyB_takeT (i := 14) (oi := ?o14_13) (v := ?v14_13) ?hi14_13 (by kernel_rfl) (by kernel_rfl) (by kernel_rfl) (by kernel_rfl) ?hq14_13 ?hy14_13 (fun _ => HSw) HTw ?r14_13
              case hi14_13 => (simp only [List.getElem?_toArray, List.getElem?_cons_zero, List.getElem?_cons_succ]; exact rfl)
              case hq14_13 => exact fun _ _ _ h => h
              case hy14_13 =>
                refine Or.inl ⟨by rfl, ?_⟩
                intro w' hSw
                (try dsimp only at hSw)
                first
                | (go_simp; done)
                | (go_simp; with_reducible rfl)
              try simp only [Act.put, List.setIfInBounds_toArray, List.set_cons_zero, List.set_cons_succ]
              refine wpAnyB_takeT (i := 15) (oi := ?o15_14) (v := ?v15_14) ?hi15_14 (by kernel_rfl) (by kernel_rfl) (by kernel_rfl) (by kernel_rfl) ?hq15_14 ?hy15_14 (fun _ => HSw) HTw ?r15_14
              case hi15_14 => (simp only [List.getElem?_toArray, List.getElem?_cons_zero, List.getElem?_cons_succ]; exact rfl)
              case hq15_14 => exact fun _ _ _ h => h
              case hy15_14 =>
                refine Or.inl ⟨by rfl, ?_⟩
                intro w' hSw
                (try dsimp only at hSw)
                first
                | (go_simp; done)
                | (go_simp; with_reducible rfl)
              try simp only [Act.put, List.setIfInBounds_toArray, List.set_cons_zero, List.set_cons_succ]
              refine wpAnyB_take (i := 16) (oi := ?o16_15) (v := ?v16_15) ?hi16_15 (by kernel_rfl) (by kernel_rfl) (by kernel_rfl) [22, 19] (by kernel_rfl) ?hq16_15 ?hy16_15 HSw HTw ?r16_15
              case hi16_15 => (simp only [List.getElem?_toArray, List.getElem?_cons_zero, List.getElem?_cons_succ]; exact rfl)
              case hq16_15 => exact fun _ _ _ h => h
              case hy16_15 =>
                refine Or.inl ⟨by rfl, ?_⟩
                intro w' hSw
                (try dsimp only at hSw)
                first
                | (go_simp; done)
                | (go_simp; with_reducible rfl)
              try simp only [Act.put, List.setIfInBounds_toArray, List.set_cons_zero, List.set_cons_succ]
              refine wpAnyB_take (i := 17) (oi := ?o17_16) (v := ?v17_16) ?hi17_16 (by kernel_rfl) (by kernel_rfl) (by kernel_rfl) [22, 19, 18] (by kernel_rfl) ?hq17_16 ?hy17_16 HSw HTw ?r17_16
              case hi17_16 => (simp only [List.getElem?_toArray, List.getElem?_cons_zero, List.getElem?_cons_succ]; exact rfl)
              case hq17_16 => exact fun _ _ _ h => h
              case hy17_16 =>
                refine Or.inl ⟨by rfl, ?_⟩
                intro w' hSw
                (try dsimp only at hSw)
                first
                | (go_simp; done)
                | (go_simp; with_reducible rfl)
              try simp only [Act.put, List.setIfInBounds_toArray, List.set_cons_zero, List.set_cons_succ]
              clear HTw HSw
              refine wpAnyB_ready (rs := [10, 18]) (by kernel_rfl) (by simp) ?_
              refine AllReadyB.cons rfl (fun K hK => ?_) ?_
              · go_simp
                have HSa0 := hid (HSTd.out.later (Below.alloc (Below.refl _ _) (Nat.le_refl _) (.cells #[.bool cn, .string ctx] 58)) (by omega) (by omega) (by have := HSTd.out.low; omega))
                have HRa0 := hid (HRGd.out.later (Below.alloc (Below.refl _ _) (Nat.le_refl _) (.cells #[.bool cn, .string ctx] 58)))
                have HNc0 := hid (BoxN.new Wd #[.bool cn, .string ctx] 58)
                have hloc : W1.heap.size ≤ Wd.heap.size := by have := HRGd.out.p.lt; omega
                refine hK.out _ _ (fun _ => HRa0.out.S HSa0.out) HRa0.out.T ?_
                try simp only [Act.put, List.setIfInBounds_toArray, List.set_cons_zero, List.set_cons_succ]
                generalize World.alloc Wd (.cells #[.bool cn, .string ctx] 58) = Wa0 at *
                generalize Wd.heap.size = Nc at *
                refine wpAnyB_ready (rs := [11, 18]) (by kernel_rfl) (by simp) ?_
                refine AllReadyB.cons rfl (fun K hK => ?_) ?_
                · refine step_append_form _ rfl (.tmp 114) (.tmp 116) 28 28 rfl We.heap.size 58 58 i0 (.agg #[.bool false, .string ⟨#[]⟩]) 2 24 Tryz.underlying28 Tryz.underlying28 hi hz0 hz1 hz2 rfl (by decide) v2 l2.length _ rfl HSa0.out.own2 (some ⟨Nc, 0, none⟩) 1 1 [.bool cn, .string ctx] rfl rfl (fun _ => ⟨_, rfl, World.news_of_block HNc0.out⟩) (by intro u hu; simp at hu; rcases hu with rfl | rfl <;> rfl) (by omega) (by unfold maxLen; have := HLL.out; omega) (by have := HLL.out; omega) (by have := HSa0.out.low; omega) ?_
                  intro p1 cap1 Wa1 hown1 hg1 hat1 hlt1
                  have HSa1 := hid (HSa0.out.app2 (c := ⟨cn, ctx⟩) rfl hown1 hg1 hat1 (by omega) (by omega) (by omega))
                  have HRa1 := hid (HRa0.out.grown hg1 (HNE.out.2))
                  clear hown1 hg1 hat1 hlt1
                  refine hK.out _ _ (fun _ => HRa1.out.S HSa1.out) HRa1.out.T ?_
                  try simp only [Act.put, List.setIfInBounds_toArray, List.set_cons_zero, List.set_cons_succ]
                  refine wpAnyB_ready (rs := [18]) (by kernel_rfl) (by simp) ?_
                  refine AllReadyB.cons rfl (fun K hK => ?_) ?_
                  · go_simp
                    have HSa2 := hid (HSa1.out.later (Below.alloc (Below.refl _ _) (Nat.le_refl _) (.cells #[.bool dn, .string dtx] 58)) (by omega) (by omega) (by have := HSa1.out.low; omega))
                    have HRa2 := hid (HRa1.out.later (Below.alloc (Below.refl _ _) (Nat.le_refl _) (.cells #[.bool dn, .string dtx] 58)))
                    have HNd2 := hid (BoxN.new Wa1 #[.bool dn, .string dtx] 58)
                    have hlod : W1.heap.size ≤ Wa1.heap.size := by have := HRa1.out.p.lt; omega
                    refine hK.out _ _ (fun _ => HRa2.out.S HSa2.out) HRa2.out.T ?_
                    try simp only [Act.put, List.setIfInBounds_toArray, List.set_cons_zero, List.set_cons_succ]
                    generalize World.alloc Wa1 (.cells #[.bool dn, .string dtx] 58) = Wa2 at *
                    generalize Wa1.heap.size = Nd at *
                    refine wpAnyB_ready (rs := [19]) (by kernel_rfl) (by simp) ?_
                    refine AllReadyB.cons rfl (fun K hK => ?_) ?_
                    · refine step_append_form _ rfl (.tmp 122) (.tmp 124) 28 28 rfl We.heap.size 58 58 i0 (.agg #[.bool false, .string ⟨#[]⟩]) 2 24 Tryz.underlying28 Tryz.underlying28 hi hz0 hz1 hz2 rfl (by decide) v1 l1.length _ rfl HSa2.out.own1 (some ⟨Nd, 0, none⟩) 1 1 [.bool dn, .string dtx] rfl rfl (fun _ => ⟨_, rfl, World.news_of_block HNd2.out⟩) (by intro u hu; simp at hu; rcases hu with rfl | rfl <;> rfl) (by omega) (by unfold maxLen; have := HLL.out; omega) (by have := HLL.out; omega) (by have := HSa2.out.low; omega) ?_
                      intro p3 cap3 Wa3 hown3 hg3 hat3 hlt3
                      have HSa3 := hid (HSa2.out.app1 (c := ⟨dn, dtx⟩) rfl hown3 hg3 hat3 (by omega) (by omega) (by omega))
                      have HRa3 := hid (HRa2.out.grown hg3 (HNE.out.1))
                      clear hown3 hg3 hat3 hlt3
                      refine hK.out _ _ (fun _ => HRa3.out.S HSa3.out) HRa3.out.T ?_
                      try simp only [Act.put, List.setIfInBounds_toArray, List.set_cons_zero, List.set_cons_succ]
                      have HTx := HRa3.out.T
                      refine wpAnyB_takeT (i := 20) (oi := ?o20_17) (v := ?v20_17) ?hi20_17 (by kernel_rfl) (by kernel_rfl) (by kernel_rfl) (by kernel_rfl) ?hq20_17 ?hy20_17 (fun _ => HRa3.out.S HSa3.out) HTx ?r20_17
                      case hi20_17 => (simp only [List.getElem?_toArray, List.getElem?_cons_zero, List.getElem?_cons_succ]; exact rfl)
                      case hq20_17 => exact fun _ _ _ h => h
                      case hy20_17 =>
                        refine Or.inl ⟨by rfl, ?_⟩
                        intro w' hSw
                        (try dsimp only at hSw)
                        first
                        | (go_simp; done)
                        | (go_simp; with_reducible rfl)
                      try simp only [Act.put, List.setIfInBounds_toArray, List.set_cons_zero, List.set_cons_succ]
                      refine wpAnyB_takeT (i := 21) (oi := ?o21_18) (v := ?v21_18) ?hi21_18 (by kernel_rfl) (by kernel_rfl) (by kernel_rfl) (by kernel_rfl) ?hq21_18 ?hy21_18 (fun _ => HRa3.out.S HSa3.out) HTx ?r21_18
                      case hi21_18 => (simp only [List.getElem?_toArray, List.getElem?_cons_zero, List.getElem?_cons_succ]; exact rfl)
                      case hq21_18 => exact fun _ _ _ h => h
                      case hy21_18 =>
                        refine Or.inl ⟨by rfl, ?_⟩
                        intro w' hSw
                        (try dsimp only at hSw)
                        first
                        | (go_simp; done)
                        | (go_simp; with_reducible rfl)
                      try simp only [Act.put, List.setIfInBounds_toArray, List.set_cons_zero, List.set_cons_succ]
                      refine wpAnyB_ready (rs := [22]) (by kernel_rfl) (by simp) ?_
                      refine AllReadyB.cons rfl (fun K hK => ?_) AllReadyB.nil
                      have cst22 := HSa3.out.row.cell 3 rfl
                      have fst22 := HSa3.out.row.frozen 3
                      go_simp
                      have HSb22 := hid (HSa3.out.put2 (by omega) (by omega) (by omega) (.slice (some ⟨p1, 0, none⟩) (l2.length + 1) cap1))
                      have HTy := HRa3.out.put (by omega) 3 (.slice (some ⟨p1, 0, none⟩) (l2.length + 1) cap1)
                      refine hK.out _ _ (fun h => absurd h (by decide)) HTy ?_
                      try simp only [Act.put, List.setIfInBounds_toArray, List.set_cons_zero, List.set_cons_succ]
                      refine wpAnyB_takeT (i := 23) (oi := ?o23_19) (v := ?v23_19) ?hi23_19 (by kernel_rfl) (by kernel_rfl) (by kernel_rfl) (by kernel_rfl) ?hq23_19 ?hy23_19 (fun h => absurd h (by decide)) HTy ?r23_19
                      case hi23_19 => (simp only [List.getElem?_toArray, List.getElem?_cons_zero, List.getElem?_cons_succ]; exact rfl)
                      case hq23_19 => exact fun _ _ _ h => h
                      case hy23_19 =>
                        refine Or.inl ⟨by rfl, ?_⟩
                        intro w' hSw
                        (try dsimp only at hSw)
                        first
                        | (go_simp; done)
                        | (go_simp; with_reducible rfl)
                      try simp only [Act.put, List.setIfInBounds_toArray, List.set_cons_zero, List.set_cons_succ]
                      refine wpAnyB_takeT (i := 24) (oi := ?o24_20) (v := ?v24_20) ?hi24_20 (by kernel_rfl) (by kernel_rfl) (by kernel_rfl) (by kernel_rfl) ?hq24_20 ?hy24_20 (fun h => absurd h (by decide)) HTy ?r24_20
                      case hi24_20 => (simp only [List.getElem?_toArray, List.getElem?_cons_zero, List.getElem?_cons_succ]; exact rfl)
                      case hq24_20 => exact fun _ _ _ h => h
                      case hy24_20 =>
                        refine Or.inl ⟨by rfl, ?_⟩
                        intro w' hSw
                        (try dsimp only at hSw)
                        first
                        | (go_simp; done)
                        | (go_simp; with_reducible rfl)
                      try simp only [Act.put, List.setIfInBounds_toArray, List.set_cons_zero, List.set_cons_succ]
                      refine wpAnyB_ready (rs := [25]) (by kernel_rfl) (by simp) ?_
                      refine AllReadyB.cons rfl (fun K hK => ?_) AllReadyB.nil
                      have cst25 := HSb22.out.row.cell 1 rfl
                      have fst25 := HSb22.out.row.frozen 1
                      go_simp
                      have HSb25 := hid (HSb22.out.put1 (by omega) (by omega) (by omega) (.slice (some ⟨p3, 0, none⟩) (l1.length + 1) cap3))
                      refine hK.out _ _ (fun h => absurd h (by decide)) (by rw [World.cell?_setCell_other _ _ _ _ (by intro e; injection e with e1; omega)]; exact HTy) ?_
                      try simp only [Act.put, List.setIfInBounds_toArray, List.set_cons_zero, List.set_cons_succ]
                      refine wpAnyB_done (by kernel_rfl) ?_ _
                      clear HTx HTy
                      go_wp2_with fail
                      go_roundg (gk - 1)
                      case rel => exact ⟨q + 1, _, _, by go_num, by omega, hid (by rw [HE1.out, HE2.out]; exact HSb25.out)⟩
                      case measure => omega
                    exact AllReadyB.nil
                  exact AllReadyB.nil
                refine AllReadyB.cons rfl (fun K hK => ?_) ?_
                · go_simp
                  have HSa1 := hid (HSa0.out.later (Below.alloc (Below.refl _ _) (Nat.le_refl _) (.cells #[.bool dn, .string dtx] 58)) (by omega) (by omega) (by have := HSa0.out.low; omega))
                  have HRa1 := hid (HRa0.out.later (Below.alloc (Below.refl _ _) (Nat.le_refl _) (.cells #[.bool dn, .string dtx] 58)))
                  have HNc1 := hid (HNc0.out.alloc (.cells #[.bool dn, .string dtx] 58))
                  have HNd1 := hid (BoxN.new Wa0 #[.bool dn, .string dtx] 58)
                  have hlod : W1.heap.size ≤ Wa0.heap.size := by have := HRa0.out.p.lt; omega
                  refine hK.out _ _ (fun _ => HRa1.out.S HSa1.out) HRa1.out.T ?_
                  try simp only [Act.put, List.setIfInBounds_toArray, List.set_cons_zero, List.set_cons_succ]
                  generalize World.alloc Wa0 (.cells #[.bool dn, .string dtx] 58) = Wa1 at *
                  generalize Wa0.heap.size = Nd at *
                  refine wpAnyB_ready (rs := [11]) (by kernel_rfl) (by simp) ?_
                  refine AllReadyB.cons rfl (fun K hK => ?_) ?_
                  · refine step_append_form _ rfl (.tmp 114) (.tmp 116) 28 28 rfl We.heap.size 58 58 i0 (.agg #[.bool false, .string ⟨#[]⟩]) 2 24 Tryz.underlying28 Tryz.underlying28 hi hz0 hz1 hz2 rfl (by decide) v2 l2.length _ rfl HSa1.out.own2 (some ⟨Nc, 0, none⟩) 1 1 [.bool cn, .string ctx] rfl rfl (fun _ => ⟨_, rfl, World.news_of_block HNc1.out⟩) (by intro u hu; simp at hu; rcases hu with rfl | rfl <;> rfl) (by omega) (by unfold maxLen; have := HLL.out; omega) (by have := HLL.out; omega) (by have := HSa1.out.low; omega) ?_
                    intro p2 cap2 Wa2 hown2 hg2 hat2 hlt2
                    have HSa2 := hid (HSa1.out.app2 (c := ⟨cn, ctx⟩) rfl hown2 hg2 hat2 (by omega) (by omega) (by omega))
                    have HRa2 := hid (HRa1.out.grown hg2 (HNE.out.2))
                    have HNd2 := hid (far_box HNd1.out hg2 (HNE.out.2) (.inr hlod))
                    clear hown2 hg2 hat2 hlt2
                    refine hK.out _ _ (fun _ => HRa2.out.S HSa2.out) HRa2.out.T ?_
                    try simp only [Act.put, List.setIfInBounds_toArray, List.set_cons_zero, List.set_cons_succ]
                    refine wpAnyB_ready (rs := [19]) (by kernel_rfl) (by simp) ?_
                    refine AllReadyB.cons rfl (fun K hK => ?_) ?_
                    · refine step_append_form _ rfl (.tmp 122) (.tmp 124) 28 28 rfl We.heap.size 58 58 i0 (.agg #[.bool false, .string ⟨#[]⟩]) 2 24 Tryz.underlying28 Tryz.underlying28 hi hz0 hz1 hz2 rfl (by decide) v1 l1.length _ rfl HSa2.out.own1 (some ⟨Nd, 0, none⟩) 1 1 [.bool dn, .string dtx] rfl rfl (fun _ => ⟨_, rfl, World.news_of_block HNd2.out⟩) (by intro u hu; simp at hu; rcases hu with rfl | rfl <;> rfl) (by omega) (by unfold maxLen; have := HLL.out; omega) (by have := HLL.out; omega) (by have := HSa2.out.low; omega) ?_
                      intro p3 cap3 Wa3 hown3 hg3 hat3 hlt3
                      have HSa3 := hid (HSa2.out.app1 (c := ⟨dn, dtx⟩) rfl hown3 hg3 hat3 (by omega) (by omega) (by omega))
                      have HRa3 := hid (HRa2.out.grown hg3 (HNE.out.1))
                      clear hown3 hg3 hat3 hlt3
                      refine hK.out _ _ (fun _ => HRa3.out.S HSa3.out) HRa3.out.T ?_
                      try simp only [Act.put, List.setIfInBounds_toArray, List.set_cons_zero, List.set_cons_succ]
                      have HTx := HRa3.out.T
                      refine wpAnyB_takeT (i := 20) (oi := ?o20_21) (v := ?v20_21) ?hi20_21 (by kernel_rfl) (by kernel_rfl) (by kernel_rfl) (by kernel_rfl) ?hq20_21 ?hy20_21 (fun _ => HRa3.out.S HSa3.out) HTx ?r20_21
                      case hi20_21 => (simp only [List.getElem?_toArray, List.getElem?_cons_zero, List.getElem?_cons_succ]; exact rfl)
                      case hq20_21 => exact fun _ _ _ h => h
                      case hy20_21 =>
                        refine Or.inl ⟨by rfl, ?_⟩
                        intro w' hSw
                        (try dsimp only at hSw)
                        first
                        | (go_simp; done)
                        | (go_simp; with_reducible rfl)
                      try simp only [Act.put, List.setIfInBounds_toArray, List.set_cons_zero, List.set_cons_succ]
                      refine wpAnyB_takeT (i := 21) (oi := ?o21_22) (v := ?v21_22) ?hi21_22 (by kernel_rfl) (by kernel_rfl) (by kernel_rfl) (by kernel_rfl) ?hq21_22 ?hy21_22 (fun _ => HRa3.out.S HSa3.out) HTx ?r21_22
                      case hi21_22 => (simp only [List.getElem?_toArray, List.getElem?_cons_zero, List.getElem?_cons_succ]; exact rfl)
                      case hq21_22 => exact fun _ _ _ h => h
                      case hy21_22 =>
                        refine Or.inl ⟨by rfl, ?_⟩
                        intro w' hSw
                        (try dsimp only at hSw)
                        first
                        | (go_simp; done)
                        | (go_simp; with_reducible rfl)
                      try simp only [Act.put, List.setIfInBounds_toArray, List.set_cons_zero, List.set_cons_succ]
                      refine wpAnyB_ready (rs := [22]) (by kernel_rfl) (by simp) ?_
                      refine AllReadyB.cons rfl (fun K hK => ?_) AllReadyB.nil
                      have cst22 := HSa3.out.row.cell 3 rfl
                      have fst22 := HSa3.out.row.frozen 3
                      go_simp
                      have HSb22 := hid (HSa3.out.put2 (by omega) (by omega) (by omega) (.slice (some ⟨p2, 0, none⟩) (l2.length + 1) cap2))
                      have HTy := HRa3.out.put (by omega) 3 (.slice (some ⟨p2, 0, none⟩) (l2.length + 1) cap2)
                      refine hK.out _ _ (fun h => absurd h (by decide)) HTy ?_
                      try simp only [Act.put, List.setIfInBounds_toArray, List.set_cons_zero, List.set_cons_succ]
                      refine wpAnyB_takeT (i := 23) (oi := ?o23_23) (v := ?v23_23) ?hi23_23 (by kernel_rfl) (by kernel_rfl) (by kernel_rfl) (by kernel_rfl) ?hq23_23 ?hy23_23 (fun h => absurd h (by decide)) HTy ?r23_23
                      case hi23_23 => (simp only [List.getElem?_toArray, List.getElem?_cons_zero, List.getElem?_cons_succ]; exact rfl)
                      case hq23_23 => exact fun _ _ _ h => h
                      case hy23_23 =>
                        refine Or.inl ⟨by rfl, ?_⟩
                        intro w' hSw
                        (try dsimp only at hSw)
                        first
                        | (go_simp; done)
                        | (go_simp; with_reducible rfl)
                      try simp only [Act.put, List.setIfInBounds_toArray, List.set_cons_zero, List.set_cons_succ]
                      refine wpAnyB_takeT (i := 24) (oi := ?o24_24) (v := ?v24_24) ?hi24_24 (by kernel_rfl) (by kernel_rfl) (by kernel_rfl) (by kernel_rfl) ?hq24_24 ?hy24_24 (fun h => absurd h (by decide)) HTy ?r24_24
                      case hi24_24 => (simp only [List.getElem?_toArray, List.getElem?_cons_zero, List.getElem?_cons_succ]; exact rfl)
                      case hq24_24 => exact fun _ _ _ h => h
                      case hy24_24 =>
                        refine Or.inl ⟨by rfl, ?_⟩
                        intro w' hSw
                        (try dsimp only at hSw)
                        first
                        | (go_simp; done)
                        | (go_simp; with_reducible rfl)
                      try simp only [Act.put, List.setIfInBounds_toArray, List.set_cons_zero, List.set_cons_succ]
                      refine wpAnyB_ready (rs := [25]) (by kernel_rfl) (by simp) ?_
                      refine AllReadyB.cons rfl (fun K hK => ?_) AllReadyB.nil
                      have cst25 := HSb22.out.row.cell 1 rfl
                      have fst25 := HSb22.out.row.frozen 1
                      go_simp
                      have HSb25 := hid (HSb22.out.put1 (by omega) (by omega) (by omega) (.slice (some ⟨p3, 0, none⟩) (l1.length + 1) cap3))
                      refine hK.out _ _ (fun h => absurd h (by decide)) (by rw [World.cell?_setCell_other _ _ _ _ (by intro e; injection e with e1; omega)]; exact HTy) ?_
                      try simp only [Act.put, List.setIfInBounds_toArray, List.set_cons_zero, List.set_cons_succ]
                      refine wpAnyB_done (by kernel_rfl) ?_ _
                      clear HTx HTy
                      go_wp2_with fail
                      go_roundg (gk - 1)
                      case rel => exact ⟨q + 1, _, _, by go_num, by omega, hid (by rw [HE1.out, HE2.out]; exact HSb25.out)⟩
                      case measure => omega
                    exact AllReadyB.nil
                  exact AllReadyB.nil
                exact AllReadyB.nil
              refine AllReadyB.cons rfl (fun K hK => ?_) ?_
              · go_simp
                have HSa0 := hid (HSTd.out.later (Below.alloc (Below.refl _ _) (Nat.le_refl _) (.cells #[.bool dn, .string dtx] 58)) (by omega) (by omega) (by have := HSTd.out.low; omega))
                have HRa0 := hid (HRGd.out.later (Below.alloc (Below.refl _ _) (Nat.le_refl _) (.cells #[.bool dn, .string dtx] 58)))
                have HNd0 := hid (BoxN.new Wd #[.bool dn, .string dtx] 58)
                have hlod : W1.heap.size ≤ Wd.heap.size := by have := HRGd.out.p.lt; omega
                refine hK.out _ _ (fun _ => HRa0.out.S HSa0.out) HRa0.out.T ?_
                try simp only [Act.put, List.setIfInBounds_toArray, List.set_cons_zero, List.set_cons_succ]
                generalize World.alloc Wd (.cells #[.bool dn, .string dtx] 58) = Wa0 at *
                generalize Wd.heap.size = Nd at *
                refine wpAnyB_ready (rs := [10]) (by kernel_rfl) (by simp) ?_
                refine AllReadyB.cons rfl (fun K hK => ?_) ?_
                · go_simp
                  have HSa1 := hid (HSa0.out.later (Below.alloc (Below.refl _ _) (Nat.le_refl _) (.cells #[.bool cn, .string ctx] 58)) (by omega) (by omega) (by have := HSa0.out.low; omega))
                  have HRa1 := hid (HRa0.out.later (Below.alloc (Below.refl _ _) (Nat.le_refl _) (.cells #[.bool cn, .string ctx] 58)))
                  have HNd1 := hid (HNd0.out.alloc (.cells #[.bool cn, .string ctx] 58))
                  have HNc1 := hid (BoxN.new Wa0 #[.bool cn, .string ctx] 58)
                  have hloc : W1.heap.size ≤ Wa0.heap.size := by have := HRa0.out.p.lt; omega
                  refine hK.out _ _ (fun _ => HRa1.out.S HSa1.out) HRa1.out.T ?_
                  try simp only [Act.put, List.setIfInBounds_toArray, List.set_cons_zero, List.set_cons_succ]
                  generalize World.alloc Wa0 (.cells #[.bool cn, .string ctx] 58) = Wa1 at *
                  generalize Wa0.heap.size = Nc at *
                  refine wpAnyB_ready (rs := [11]) (by kernel_rfl) (by simp) ?_
                  refine AllReadyB.cons rfl (fun K hK => ?_) ?_
                  · refine step_append_form _ rfl (.tmp 114) (.tmp 116) 28 28 rfl We.heap.size 58 58 i0 (.agg #[.bool false, .string ⟨#[]⟩]) 2 24 Tryz.underlying28 Tryz.underlying28 hi hz0 hz1 hz2 rfl (by decide) v2 l2.length _ rfl HSa1.out.own2 (some ⟨Nc, 0, none⟩) 1 1 [.bool cn, .string ctx] rfl rfl (fun _ => ⟨_, rfl, World.news_of_block HNc1.out⟩) (by intro u hu; simp at hu; rcases hu with rfl | rfl <;> rfl) (by omega) (by unfold maxLen; have := HLL.out; omega) (by have := HLL.out; omega) (by have := HSa1.out.low; omega) ?_
                    intro p2 cap2 Wa2 hown2 hg2 hat2 hlt2
                    have HSa2 := hid (HSa1.out.app2 (c := ⟨cn, ctx⟩) rfl hown2 hg2 hat2 (by omega) (by omega) (by omega))
                    have HRa2 := hid (HRa1.out.grown hg2 (HNE.out.2))
                    have HNd2 := hid (far_box HNd1.out hg2 (HNE.out.2) (.inr hlod))
                    clear hown2 hg2 hat2 hlt2
                    refine hK.out _ _ (fun _ => HRa2.out.S HSa2.out) HRa2.out.T ?_
                    try simp only [Act.put, List.setIfInBounds_toArray, List.set_cons_zero, List.set_cons_succ]
                    refine wpAnyB_ready (rs := [19]) (by kernel_rfl) (by simp) ?_
                    refine AllReadyB.cons rfl (fun K hK => ?_) ?_
                    · refine step_append_form _ rfl (.tmp 122) (.tmp 124) 28 28 rfl We.heap.size 58 58 i0 (.agg #[.bool false, .string ⟨#[]⟩]) 2 24 Tryz.underlying28 Tryz.underlying28 hi hz0 hz1 hz2 rfl (by decide) v1 l1.length _ rfl HSa2.out.own1 (some ⟨Nd, 0, none⟩) 1 1 [.bool dn, .string dtx] rfl rfl (fun _ => ⟨_, rfl, World.news_of_block HNd2.out⟩) (by intro u hu; simp at hu; rcases hu with rfl | rfl <;> rfl) (by omega) (by unfold maxLen; have := HLL.out; omega) (by have := HLL.out; omega) (by have := HSa2.out.low; omega) ?_
                      intro p3 cap3 Wa3 hown3 hg3 hat3 hlt3
                      have HSa3 := hid (HSa2.out.app1 (c := ⟨dn, dtx⟩) rfl hown3 hg3 hat3 (by omega) (by omega) (by omega))
                      have HRa3 := hid (HRa2.out.grown hg3 (HNE.out.1))
                      clear hown3 hg3 hat3 hlt3
                      refine hK.out _ _ (fun _ => HRa3.out.S HSa3.out) HRa3.out.T ?_
                      try simp only [Act.put, List.setIfInBounds_toArray, List.set_cons_zero, List.set_cons_succ]
                      have HTx := HRa3.out.T
                      refine wpAnyB_takeT (i := 20) (oi := ?o20_25) (v := ?v20_25) ?hi20_25 (by kernel_rfl) (by kernel_rfl) (by kernel_rfl) (by kernel_rfl) ?hq20_25 ?hy20_25 (fun _ => HRa3.out.S HSa3.out) HTx ?r20_25
                      case hi20_25 => (simp only [List.getElem?_toArray, List.getElem?_cons_zero, List.getElem?_cons_succ]; exact rfl)
                      case hq20_25 => exact fun _ _ _ h => h
                      case hy20_25 =>
                        refine Or.inl ⟨by rfl, ?_⟩
                        intro w' hSw
                        (try dsimp only at hSw)
                        first
                        | (go_simp; done)
                        | (go_simp; with_reducible rfl)
                      try simp only [Act.put, List.setIfInBounds_toArray, List.set_cons_zero, List.set_cons_succ]
                      refine wpAnyB_takeT (i := 21) (oi := ?o21_26) (v := ?v21_26) ?hi21_26 (by kernel_rfl) (by kernel_rfl) (by kernel_rfl) (by kernel_rfl) ?hq21_26 ?hy21_26 (fun _ => HRa3.out.S HSa3.out) HTx ?r21_26
                      case hi21_26 => (simp only [List.getElem?_toArray, List.getElem?_cons_zero, List.getElem?_cons_succ]; exact rfl)
                      case hq21_26 => exact fun _ _ _ h => h
                      case hy21_26 =>
                        refine Or.inl ⟨by rfl, ?_⟩
                        intro w' hSw
                        (try dsimp only at hSw)
                        first
                        | (go_simp; done)
                        | (go_simp; with_reducible rfl)
                      try simp only [Act.put, List.setIfInBounds_toArray, List.set_cons_zero, List.set_cons_succ]
                      refine wpAnyB_ready (rs := [22]) (by kernel_rfl) (by simp) ?_
                      refine AllReadyB.cons rfl (fun K hK => ?_) AllReadyB.nil
                      have cst22 := HSa3.out.row.cell 3 rfl
                      have fst22 := HSa3.out.row.frozen 3
                      go_simp
                      have HSb22 := hid (HSa3.out.put2 (by omega) (by omega) (by omega) (.slice (some ⟨p2, 0, none⟩) (l2.length + 1) cap2))
                      have HTy := HRa3.out.put (by omega) 3 (.slice (some ⟨p2, 0, none⟩) (l2.length + 1) cap2)
                      refine hK.out _ _ (fun h => absurd h (by decide)) HTy ?_
                      try simp only [Act.put, List.setIfInBounds_toArray, List.set_cons_zero, List.set_cons_succ]
                      refine wpAnyB_takeT (i := 23) (oi := ?o23_27) (v := ?v23_27) ?hi23_27 (by kernel_rfl) (by kernel_rfl) (by kernel_rfl) (by kernel_rfl) ?hq23_27 ?hy23_27 (fun h => absurd h (by decide)) HTy ?r23_27
                      case hi23_27 => (simp only [List.getElem?_toArray, List.getElem?_cons_zero, List.getElem?_cons_succ]; exact rfl)
                      case hq23_27 => exact fun _ _ _ h => h
                      case hy23_27 =>
                        refine Or.inl ⟨by rfl, ?_⟩
                        intro w' hSw
                        (try dsimp only at hSw)
                        first
                        | (go_simp; done)
                        | (go_simp; with_reducible rfl)
                      try simp only [Act.put, List.setIfInBounds_toArray, List.set_cons_zero, List.set_cons_succ]
                      refine wpAnyB_takeT (i := 24) (oi := ?o24_28) (v := ?v24_28) ?hi24_28 (by kernel_rfl) (by kernel_rfl) (by kernel_rfl) (by kernel_rfl) ?hq24_28 ?hy24_28 (fun h => absurd h (by decide)) HTy ?r24_28
                      case hi24_28 => (simp only [List.getElem?_toArray, List.getElem?_cons_zero, List.getElem?_cons_succ]; exact rfl)
                      case hq24_28 => exact fun _ _ _ h => h
                      case hy24_28 =>
                        refine Or.inl ⟨by rfl, ?_⟩
                        intro w' hSw
                        (try dsimp only at hSw)
                        first
                        | (go_simp; done)
                        | (go_simp; with_reducible rfl)
                      try simp only [Act.put, List.setIfInBounds_toArray, List.set_cons_zero, List.set_cons_succ]
                      refine wpAnyB_ready (rs := [25]) (by kernel_rfl) (by simp) ?_
                      refine AllReadyB.cons rfl (fun K hK => ?_) AllReadyB.nil
                      have cst25 := HSb22.out.row.cell 1 rfl
                      have fst25 := HSb22.out.row.frozen 1
                      go_simp
                      have HSb25 := hid (HSb22.out.put1 (by omega) (by omega) (by omega) (.slice (some ⟨p3, 0, none⟩) (l1.length + 1) cap3))
                      refine hK.out _ _ (fun h => absurd h (by decide)) (by rw [World.cell?_setCell_other _ _ _ _ (by intro e; injection e with e1; omega)]; exact HTy) ?_
                      try simp only [Act.put, List.setIfInBounds_toArray, List.set_cons_zero, List.set_cons_succ]
                      refine wpAnyB_done (by kernel_rfl) ?_ _
                      clear HTx HTy
                      go_wp2_with fail
                      go_roundg (gk - 1)
                      case rel => exact ⟨q + 1, _, _, by go_num, by omega, hid (by rw [HE1.out, HE2.out]; exact HSb25.out)⟩
                      case measure => omega
                    exact AllReadyB.nil
                  exact AllReadyB.nil
                exact AllReadyB.nil
              exact AllReadyB.nil
          · obtain rfl : gk = 0 := by omega
            obtain rfl : q = tn := by omega
            go_wp2_with fail
            have HWF := hid (show PassSt w We wr (w.heap.size + 4) (w.heap.size + 1) We.heap.size 65 (cntB A B) ⟨#[109]⟩ ⟨#[110]⟩ v1 v2 v1 v2 (B.map qC) (B.map pC) by
              have h := HST.out
              rw [show B.take q = B from List.take_of_length_le (by have := HB.out.len; omega)] at h
              exact h)
            clear HST
            obtain ⟨Wf, rfl⟩ : ∃ Wf, Wf = wr := ⟨wr, rfl⟩
            have hwfz := HWF.out.low
            have l0 := ((show BoxN Wf (w.heap.size + 5) 63 _ from (HWF.out.keep _ (by omega) (by omega) (by omega)).trans HLI.out)).cell 0 rfl
            have l1 := ((show BoxN Wf (w.heap.size + 5) 63 _ from (HWF.out.keep _ (by omega) (by omega) (by omega)).trans HLI.out)).cell 1 rfl
            clear HTB hp
            rw [rounds_succ]
            go_wp2_with fail
            clear l0 l1
            go_loopg [14, 132] 9 (fun N s i wr => ∃ k : Nat, i = .int .i64 (k : Int) ∧ k + N = 9 ∧ s = .int .i64 ((minSum k (cnt9 A) (cnt9 B) : Nat) : Int) ∧ Hid (Below Wf.heap.size Wf wr))
            case atStart => exact ⟨0, rfl, rfl, rfl, hid (Below.refl _ _)⟩
            case round =>
              obtain ⟨k, rfl, hk, rfl, HBW⟩ := hrel
              have hms := minSum_le (f := cnt9 A) (g := cnt9 B) (m := 30) (fun i => Nat.le_trans (cnt9_le _ _) (by have := HA.out.len; omega)) k
              have HMS := hid (minSum_succ k (cnt9 A) (cnt9 B))
              generalize hM : minSum k (cnt9 A) (cnt9 B) = M at *
              have HM := hid hM
              clear hM
              by_cases hk9 : k < 9
              · have e0 := HWF.out.cnts.cell (i := k) (by omega)
                have e1 := HWF.out.cnts.cell (i := 9 + k) (by omega)
                rw [show cntB A B k = cnt9 A k from if_pos hk9] at e0
                rw [show cntB A B (9 + k) = cnt9 B k by unfold cntB; rw [if_neg (by omega), Nat.add_sub_cancel_left]] at e1
                have c0 := (HBW.out.cell (p := ⟨w.heap.size + 4, k, none⟩) (by show w.heap.size + 4 < Wf.heap.size; omega)).trans e0
                have c1 := (HBW.out.cell (p := ⟨w.heap.size + 4, 9 + k, none⟩) (by show w.heap.size + 4 < Wf.heap.size; omega)).trans e1
                clear e0 e1
                have hA30 : cnt9 A k ≤ 30 := Nat.le_trans (cnt9_le _ _) (by have := HA.out.len; omega)
                have hB30 : cnt9 B k ≤ 30 := Nat.le_trans (cnt9_le _ _) (by have := HB.out.len; omega)
                generalize cnt9 A k = x at *
                generalize cnt9 B k = y at *
                go_upto_region 24 with fail
                go_region
                clear c0 c1
                go_wp2_with fail
                go_roundg (gk - 1)
                case rel => exact ⟨k + 1, by go_num, by omega, by rw [HMS.out]; congr 1; omega, hid (by have h1 := HBW.out; repeat' (first | (with_reducible exact Below.refl _ _) | (with_reducible assumption) | (with_reducible refine below_drewN ?_) | (with_reducible refine Below.alloc ?_ ?_ _) | (with_reducible refine Below.drew ?_) | (with_reducible refine Below.setCell ?_ ?_ _) | (with_reducible refine Below.trans ?_ (Below.mono (by with_reducible assumption) ?_)) | go_size))⟩
                case measure => omega
              · obtain rfl : k = 9 := by omega
                have hwrz := HBW.out.size
                have HBE := hid (HWF.out.bel.trans (HBW.out.mono (by omega)))
                have hta : BoxN wr (w.heap.size + 2) 24 #[.int .i64 1, .string ⟨#[]⟩, .slice (some ⟨w.heap.size, 0, none⟩) 2 2] := (HBW.out.block _ (by omega)).trans ((HWF.out.keep _ (by omega) (by omega) (by omega)).trans HTA.out)
                have htb : BoxN wr (w.heap.size + 3) 24 #[.int .i64 2, .string ⟨#[]⟩, .slice (some ⟨w.heap.size + 1, 0, none⟩) 2 2] := (HBW.out.block _ (by omega)).trans ((HWF.out.keep _ (by omega) (by omega) (by omega)).trans HTBE.out)
                have hat : ∀ b, w.heap.size + 6 ≤ b ∧ b < We.heap.size → wr.heap[b]? = We.heap[b]? := fun b hb => (HBW.out.block b (by omega)).trans (HWF.out.keep b (by omega) (by omega) (by omega))
                have HRX := hid (rd_two (W := wr) ((HBW.out.block _ (by omega)).trans ((HWF.out.keep _ (by omega) (by omega) (by omega)).trans HWE.out.row)) (own_at HWE.out.own1 fun b hb => hat b (HWE.out.own1.lt b hb)) (own_at HWE.out.own2 fun b hb => hat b (HWE.out.own2.lt b hb)))
                have HRY := hid (rd_two (W := wr) ((HBW.out.block _ (by omega)).trans HWF.out.row) (own_later HWF.out.own1 HBW.out) (own_later HWF.out.own2 HBW.out))
                have HCM : Hid (Calls Tryz.prog 17 #[.agg #[.int .i64 1, .string ⟨#[]⟩, .slice (some ⟨w.heap.size, 0, none⟩) 2 2], .agg #[.int .i64 2, .string ⟨#[]⟩, .slice (some ⟨w.heap.size + 1, 0, none⟩) 2 2]] wr (fun e w' => e = .returned (.tuple #[.int .i64 ((M : Nat) : Int), .int .i64 0]) ∧ Below wr.heap.size wr w')) := hid (by
                  have h := copies_Common ⟨1, ⟨#[]⟩, tX A⟩ ⟨2, ⟨#[]⟩, tY B⟩ _ _ wr.heap.size wr (tabX_ok A (by have := HA.out.len; omega)) (tabY_ok B (by have := HB.out.len; omega)) HRX.out HRY.out (Nat.le_refl _) (HT.out.below HBE.out)
                  rw [show commonL (tX A) (tY B) = M from (counts_law A B).trans HM.out] at h
                  exact h)
                have c0 := hta.cell 0 rfl
                have c1 := hta.cell 1 rfl
                have c2 := hta.cell 2 rfl
                have d0 := htb.cell 0 rfl
                have d1 := htb.cell 1 rfl
                have d2 := htb.cell 2 rfl
                clear hta htb hat hms
                go_wp2_with fail
                with_reducible refine HCM.out.mono ?_
                rintro e w5 ⟨rfl, hb5⟩
                have HB5 := hid (HBE.out.trans (hb5.mono (by omega)))
                clear c0 c1 c2 d0 d1 d2 hb5
                go_wp2_with fail
                with_reducible refine (law36_awake _ (HT.out.below HB5.out)).mono ?_
                rintro e w6 ⟨rfl, hb6⟩
                go_wp2_with fail
                go_ret
                exact ⟨rfl, HB5.out.trans (hb6.mono HB5.out.size)⟩
  · by_cases hg1 : sn ≤ 30
    · have hg2 : 30 < tn := by omega
      have hd1 : decide ((30 : Int) < (sn : Int)) = false := decide_eq_false (by omega)
      have hd2 : decide ((30 : Int) < (tn : Int)) = true := decide_eq_true (by omega)
      have hd3 : decide (30 < sn) = false := decide_eq_false (by omega)
      have hd4 : decide (30 < tn) = true := decide_eq_true (by omega)
      go_enter Tryz.func5, Tryz.ntmps5
      go_wp2_with fail
      with_reducible refine (law36_awake _ HT.out).mono ?_
      rintro e w1 ⟨rfl, hb1⟩
      go_wp2_with fail
      go_ret
      exact ⟨rfl, hb1⟩
    · have hd1 : decide ((30 : Int) < (sn : Int)) = true := decide_eq_true (by omega)
      have hd3 : decide (30 < sn) = true := decide_eq_true (by omega)
      go_enter Tryz.func5, Tryz.ntmps5
      go_wp2_with fail
      with_reducible refine (law36_awake _ HT.out).mono ?_
      rintro e w1 ⟨rfl, hb1⟩
      go_wp2_with fail
      go_ret
      exact ⟨rfl, hb1⟩

end Go.Proofs.YtfcccldofaleoaaGreatDoor
