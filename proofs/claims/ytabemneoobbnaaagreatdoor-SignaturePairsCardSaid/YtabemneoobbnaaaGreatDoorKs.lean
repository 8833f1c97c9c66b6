/- The sanity check of law 17; contract of signature.Rank. -/
import Derived.Test.YtabemneoobbnaaaGreatDoorKr
namespace Go.Proofs.YtabemneoobbnaaaGreatDoor
open Go.RowKit

set_option maxHeartbeats 400000 in
theorem sig_Rank (v : Value) (xs : List ByteArray) (s : ByteArray) (B : Nat) (w : World) (hv : InS w (· < B) v xs) (hp : 0 < xs.length) :
    Calls Tryz.prog 29 #[v, .string s] w fun e w' => e = .returned (.int .i64 (Lib.idxOfS xs s)) ∧ w' = w := by
  have HI := hid (lib_IndexR v xs s B w hv hp)
  obtain ⟨a, c, rfl, -⟩ := hv
  generalize Lib.idxOfS xs s = z at *
  generalize xs.length = n at *
  go_enter Tryz.func29, Tryz.ntmps29
  go_wp2_with fail
  with_reducible refine HI.out.mono ?_
  rintro e w1 ⟨rfl, rfl⟩
  go_wp2
  go_ret
  exact ⟨rfl, rfl⟩

def tA : ByteArray := ⟨#[97]⟩
def tB : ByteArray := ⟨#[98]⟩
def sane17 : List Ta := [⟨1, ⟨#[]⟩, [⟨⟨#[]⟩, [⟨false, ⟨#[98]⟩⟩, ⟨false, ⟨#[97]⟩⟩]⟩, ⟨⟨#[]⟩, [⟨false, ⟨#[98]⟩⟩, ⟨false, ⟨#[98]⟩⟩]⟩]⟩]
theorem sane17_cvs : cvsL sane17 = [((1, 0), [⟨#[97]⟩, ⟨#[98]⟩]), ((1, 1), [⟨#[98]⟩])] := by decide +kernel
theorem sane17_all : allOf (cvsL sane17) = [⟨#[97]⟩, ⟨#[98]⟩, ⟨#[98]⟩] := by rw [sane17_cvs]; rfl
theorem sane17_out : outL (cvsL sane17) 1 (prN (cvsL sane17).length) = [((1, 0), (1, 1))] := by rw [sane17_cvs]; decide +kernel
theorem tok0 : TextOk 1024 ⟨#[]⟩ := by unfold TextOk; decide +kernel
theorem ckA : CellOk ⟨false, ⟨#[97]⟩⟩ := by unfold CellOk TextOk; decide +kernel
theorem ckB : CellOk ⟨false, ⟨#[98]⟩⟩ := by unfold CellOk TextOk; decide +kernel
theorem sane17_listV : ListV sane17 := by
  refine ⟨by decide, fun t ht => ?_, by simp [sane17]⟩
  obtain rfl := List.mem_singleton.1 ht
  refine ⟨by decide, by decide, tok0, by decide, 2, by omega, fun x hx => ?_⟩
  simp only [List.mem_cons, List.not_mem_nil, or_false] at hx
  rcases hx with rfl | rfl
  · refine ⟨tok0, rfl, fun c hc => ?_⟩
    simp only [List.mem_cons, List.not_mem_nil, or_false] at hc
    rcases hc with rfl | rfl
    · exact ckB
    · exact ckA
  · refine ⟨tok0, rfl, fun c hc => ?_⟩
    simp only [List.mem_cons, List.not_mem_nil, or_false] at hc
    rcases hc with rfl | rfl <;> exact ckB
theorem olt_anti {F : ByteArray → Nat} {x y : ByteArray} (h1 : olt F y x = false) (h2 : olt F x y = false) : x = y := by
  rw [olt_not] at h1 h2
  rcases h1 with h1 | ⟨h1, h3⟩ <;> rcases h2 with h2 | ⟨h2, h4⟩
  · omega
  · omega
  · omega
  · rcases h3 with rfl | h3
    · rfl
    · rcases h4 with rfl | h4
      · rfl
      · have := sl_trans h3 h4
        rw [sl_irrefl] at this; cases this
theorem sane17_ord {O : List ByteArray} (h1 : O.Nodup) (h2 : ∀ s, s ∈ O ↔ s ∈ allOf (cvsL sane17)) (h3 : O.Pairwise (fun x y => olt (cntN (allOf (cvsL sane17))) y x = false)) : O = [⟨#[97]⟩, ⟨#[98]⟩] := by
  rw [sane17_all] at h2 h3
  have hp : O.Perm [⟨#[97]⟩, ⟨#[98]⟩] := (List.perm_ext_iff_of_nodup h1 (by decide +kernel)).2 fun s => (h2 s).trans (by simp)
  have h4 : ([⟨#[97]⟩, ⟨#[98]⟩] : List ByteArray).Pairwise (fun x y => olt (cntN [⟨#[97]⟩, ⟨#[98]⟩, ⟨#[98]⟩]) y x = false) := by decide +kernel
  exact hp.eq_of_pairwise (fun a b _ _ h5 h6 => olt_anti h5 h6) h3 h4
theorem sane17_idx : Lib.idxOfS [⟨#[97]⟩, ⟨#[98]⟩] ⟨#[98]⟩ = 1 := by decide +kernel

theorem sane17_read (w : World) : RdTa ((((w.alloc (.cells #[.bool false, .string ⟨#[98]⟩, .bool false, .string ⟨#[97]⟩] 81)).alloc (.cells #[.bool false, .string ⟨#[98]⟩, .bool false, .string ⟨#[98]⟩] 81)).alloc (.cells #[.string ⟨#[]⟩, .slice (some ⟨w.heap.size, 0, none⟩) 2 2, .string ⟨#[]⟩, .slice (some ⟨w.heap.size + 1, 0, none⟩) 2 2] 52)).alloc (.cells #[.int .i64 1, .string ⟨#[]⟩, .slice (some ⟨w.heap.size + 1 + 1, 0, none⟩) 2 2] 84)) (· < w.heap.size + 4) (.slice (some ⟨w.heap.size + 1 + 1 + 1, 0, none⟩) 1 1) sane17 := by
  have hA : BoxN ((((w.alloc (.cells #[.bool false, .string ⟨#[98]⟩, .bool false, .string ⟨#[97]⟩] 81)).alloc (.cells #[.bool false, .string ⟨#[98]⟩, .bool false, .string ⟨#[98]⟩] 81)).alloc (.cells #[.string ⟨#[]⟩, .slice (some ⟨w.heap.size, 0, none⟩) 2 2, .string ⟨#[]⟩, .slice (some ⟨w.heap.size + 1, 0, none⟩) 2 2] 52)).alloc (.cells #[.int .i64 1, .string ⟨#[]⟩, .slice (some ⟨w.heap.size + 1 + 1, 0, none⟩) 2 2] 84)) w.heap.size 81 #[.bool false, .string ⟨#[98]⟩, .bool false, .string ⟨#[97]⟩] := (((BoxN.new w _ _).alloc _).alloc _).alloc _
  have hB := (((BoxN.new (w.alloc (.cells #[.bool false, .string ⟨#[98]⟩, .bool false, .string ⟨#[97]⟩] 81)) #[.bool false, .string ⟨#[98]⟩, .bool false, .string ⟨#[98]⟩] 81).alloc (.cells #[.string ⟨#[]⟩, .slice (some ⟨w.heap.size, 0, none⟩) 2 2, .string ⟨#[]⟩, .slice (some ⟨w.heap.size + 1, 0, none⟩) 2 2] 52)).alloc (.cells #[.int .i64 1, .string ⟨#[]⟩, .slice (some ⟨w.heap.size + 1 + 1, 0, none⟩) 2 2] 84))
  have hC := ((BoxN.new ((w.alloc (.cells #[.bool false, .string ⟨#[98]⟩, .bool false, .string ⟨#[97]⟩] 81)).alloc (.cells #[.bool false, .string ⟨#[98]⟩, .bool false, .string ⟨#[98]⟩] 81)) #[.string ⟨#[]⟩, .slice (some ⟨w.heap.size, 0, none⟩) 2 2, .string ⟨#[]⟩, .slice (some ⟨w.heap.size + 1, 0, none⟩) 2 2] 52).alloc (.cells #[.int .i64 1, .string ⟨#[]⟩, .slice (some ⟨w.heap.size + 1 + 1, 0, none⟩) 2 2] 84))
  have hD := BoxN.new (((w.alloc (.cells #[.bool false, .string ⟨#[98]⟩, .bool false, .string ⟨#[97]⟩] 81)).alloc (.cells #[.bool false, .string ⟨#[98]⟩, .bool false, .string ⟨#[98]⟩] 81)).alloc (.cells #[.string ⟨#[]⟩, .slice (some ⟨w.heap.size, 0, none⟩) 2 2, .string ⟨#[]⟩, .slice (some ⟨w.heap.size + 1, 0, none⟩) 2 2] 52)) #[.int .i64 1, .string ⟨#[]⟩, .slice (some ⟨w.heap.size + 1 + 1, 0, none⟩) 2 2] 84
  rw [World.size_alloc] at hB
  rw [World.size_alloc, World.size_alloc] at hC
  rw [World.size_alloc, World.size_alloc, World.size_alloc] at hD
  generalize (((w.alloc (.cells #[.bool false, .string ⟨#[98]⟩, .bool false, .string ⟨#[97]⟩] 81)).alloc (.cells #[.bool false, .string ⟨#[98]⟩, .bool false, .string ⟨#[98]⟩] 81)).alloc (.cells #[.string ⟨#[]⟩, .slice (some ⟨w.heap.size, 0, none⟩) 2 2, .string ⟨#[]⟩, .slice (some ⟨w.heap.size + 1, 0, none⟩) 2 2] 52)).alloc (.cells #[.int .i64 1, .string ⟨#[]⟩, .slice (some ⟨w.heap.size + 1 + 1, 0, none⟩) 2 2] 84) = W at *
  refine ⟨fun _ => .slice (some ⟨w.heap.size + 1 + 1, 0, none⟩) 2 2, ⟨_, _, rfl, Nat.le_refl _, by simp [maxLen], fun _ => ⟨_, 0, rfl, by show _ < _; omega, fun i hi j hj => ?_⟩⟩, fun i hi => ?_⟩
  · obtain rfl : i = 0 := by simp [sane17] at hi; omega
    obtain rfl | rfl | rfl : j = 0 ∨ j = 1 ∨ j = 2 := by omega
    · exact hD.cell 0 rfl
    · exact hD.cell 1 rfl
    · exact hD.cell 2 rfl
  · obtain rfl : i = 0 := by simp [sane17] at hi; omega
    refine ⟨fun q => .slice (some ⟨w.heap.size + q, 0, none⟩) 2 2, ⟨_, _, rfl, Nat.le_refl _, by simp [maxLen], fun _ => ⟨_, 0, rfl, by show _ < _; omega, fun i hi j hj => ?_⟩⟩, fun i hi => ?_⟩
    · obtain rfl | rfl : i = 0 ∨ i = 1 := by simp [sane17] at hi; omega
      · obtain rfl | rfl : j = 0 ∨ j = 1 := by omega
        · exact hC.cell 0 rfl
        · exact hC.cell 1 rfl
      · obtain rfl | rfl : j = 0 ∨ j = 1 := by omega
        · exact hC.cell 2 rfl
        · exact hC.cell 3 rfl
    · obtain rfl | rfl : i = 0 ∨ i = 1 := by simp [sane17] at hi; omega
      · refine ⟨_, _, rfl, Nat.le_refl _, by simp [maxLen], fun _ => ⟨_, 0, rfl, by show _ < _; omega, fun i hi j hj => ?_⟩⟩
        obtain rfl | rfl : i = 0 ∨ i = 1 := by simp [sane17] at hi; omega
        · obtain rfl | rfl : j = 0 ∨ j = 1 := by omega
          · exact hA.cell 0 rfl
          · exact hA.cell 1 rfl
        · obtain rfl | rfl : j = 0 ∨ j = 1 := by omega
          · exact hA.cell 2 rfl
          · exact hA.cell 3 rfl
      · refine ⟨_, _, rfl, Nat.le_refl _, by simp [maxLen], fun _ => ⟨_, 0, rfl, by show _ < _; omega, fun i hi j hj => ?_⟩⟩
        obtain rfl | rfl : i = 0 ∨ i = 1 := by simp [sane17] at hi; omega
        · obtain rfl | rfl : j = 0 ∨ j = 1 := by omega
          · exact hB.cell 0 rfl
          · exact hB.cell 1 rfl
        · obtain rfl | rfl : j = 0 ∨ j = 1 := by omega
          · exact hB.cell 2 rfl
          · exact hB.cell 3 rfl

set_option maxRecDepth 100000 in
set_option maxHeartbeats 4000000 in
theorem law17_sane (w : World) (hT : Tabs w) : Calls Tryz.prog 8 #[] w (Ret w (.bool true)) := by
  have HRD := hid (sane17_read w)
  have HB1 : Hid (Below w.heap.size w ((((w.alloc (.cells #[.bool false, .string ⟨#[98]⟩, .bool false, .string ⟨#[97]⟩] 81)).alloc (.cells #[.bool false, .string ⟨#[98]⟩, .bool false, .string ⟨#[98]⟩] 81)).alloc (.cells #[.string ⟨#[]⟩, .slice (some ⟨w.heap.size, 0, none⟩) 2 2, .string ⟨#[]⟩, .slice (some ⟨w.heap.size + 1, 0, none⟩) 2 2] 52)).alloc (.cells #[.int .i64 1, .string ⟨#[]⟩, .slice (some ⟨w.heap.size + 1 + 1, 0, none⟩) 2 2] 84))) := hid (by have := Below.refl w.heap.size w; repeat' (first | (with_reducible exact Below.refl _ _) | (with_reducible assumption) | (with_reducible refine below_drewN ?_) | (with_reducible refine Below.alloc ?_ ?_ _) | (with_reducible refine Below.drew ?_) | (with_reducible refine Below.setCell ?_ ?_ _) | (with_reducible refine Below.trans ?_ (Below.mono (by with_reducible assumption) ?_)) | go_size))
  have hz1 : ((((w.alloc (.cells #[.bool false, .string ⟨#[98]⟩, .bool false, .string ⟨#[97]⟩] 81)).alloc (.cells #[.bool false, .string ⟨#[98]⟩, .bool false, .string ⟨#[98]⟩] 81)).alloc (.cells #[.string ⟨#[]⟩, .slice (some ⟨w.heap.size, 0, none⟩) 2 2, .string ⟨#[]⟩, .slice (some ⟨w.heap.size + 1, 0, none⟩) 2 2] 52)).alloc (.cells #[.int .i64 1, .string ⟨#[]⟩, .slice (some ⟨w.heap.size + 1 + 1, 0, none⟩) 2 2] 84)).heap.size = w.heap.size + 4 := by simp
  have HT1 := hid (hT.below HB1.out)
  clear hT
  go_enter Tryz.func8, Tryz.ntmps8
  go_upto_region 2 with fail
  generalize (((w.alloc (.cells #[.bool false, .string ⟨#[98]⟩, .bool false, .string ⟨#[97]⟩] 81)).alloc (.cells #[.bool false, .string ⟨#[98]⟩, .bool false, .string ⟨#[98]⟩] 81)).alloc (.cells #[.string ⟨#[]⟩, .slice (some ⟨w.heap.size, 0, none⟩) 2 2, .string ⟨#[]⟩, .slice (some ⟨w.heap.size + 1, 0, none⟩) 2 2] 52)).alloc (.cells #[.int .i64 1, .string ⟨#[]⟩, .slice (some ⟨w.heap.size + 1 + 1, 0, none⟩) 2 2] 84) = W1 at *
  have HO := hid (sig_Order _ sane17 (w.heap.size + 4) W1 sane17_listV HRD.out (by omega) HT1.out)
  go_wp2_with fail
  with_reducible refine HO.out.mono ?_
  rintro e w2 ⟨oa, oc, O, rfl, h1, h2, h3, h4, hb2⟩
  obtain rfl := sane17_ord h1 h2 h3
  have HI2 := hid (h4.more (S' := (· < w2.heap.size)) fun b hb => hb.2)
  have HB2 := hid (HB1.out.trans (hb2.mono HB1.out.size))
  have HB12 := hid hb2
  have HP := hid (sig_Pairs _ sane17 (w.heap.size + 4) 1 w2 sane17_listV (HRD.out.keep fun p (hp : p.block < w.heap.size + 4) => hb2.cell (p := p) (by omega)) (by have := hb2.size; omega) (HT1.out.below (HB12.out)) (by omega) (by omega))
  rw [sane17_out, show (((1 : Nat)) : Int) = 1 from rfl] at HP
  clear h1 h2 h3 h4 hb2
  simp only [List.length_cons, List.length_nil] at HI2 ⊢
  go_wp2_with fail
  with_reducible refine HP.out.mono ?_
  rintro e w3 ⟨pa, pc, L, rfl, hpl, -, hb3⟩
  have hll : L.length = 1 := hpl.length_eq
  rw [hll]
  have HB3 := hid (HB2.out.trans (hb3.mono HB2.out.size))
  have HI3 := hid ((HI2.out.keep (w' := w3) fun p hp => hb3.cell (p := p) hp))
  have HRK := hid (fun W (hW : Below w3.heap.size w3 W) => sig_Rank _ [⟨#[97]⟩, ⟨#[98]⟩] ⟨#[98]⟩ w3.heap.size W ((HI3.out.keep fun p (hp : p.block < w2.heap.size) => hW.cell (p := p) (Nat.lt_of_lt_of_le hp hb3.size)).more fun b hb => Nat.lt_of_lt_of_le hb hb3.size) (by decide))
  rw [sane17_idx] at HRK
  have hpf : ∀ W, Calls Tryz.prog 39 #[.int .i64 5, .int .i64 4] W fun e w' => e = .returned (.int .i64 2) ∧ w' = W := fun W => sig_Prefix 5 4 W (by omega) (by omega)
  have HPF := hid hpf
  obtain ⟨oa', oc', eo, -, -, hor⟩ := HI3.out
  obtain ⟨rfl, -, rfl⟩ := Value.slice.inj eo
  obtain ⟨ob, oo, rfl, -, hoc⟩ := hor (by decide)
  have o0 : w3.cell? ⟨ob, oo, none⟩ = some (.string ⟨#[97]⟩) := hoc 0 (by decide) 0 (by omega)
  clear hpl hb3 hpf eo hor hoc hll
  go_wp2_with fail
  with_reducible refine (HPF.out _).mono ?_
  rintro e w4 ⟨rfl, rfl⟩
  go_wp2_with fail
  with_reducible refine (HRK.out _ (Below.refl _ _)).mono ?_
  rintro e w5 ⟨rfl, rfl⟩
  go_wp2
  go_ret
  exact ⟨rfl, HB3.out⟩

end Go.Proofs.YtabemneoobbnaaaGreatDoor
