/- Contract of the reference's Text, of fractions of one decimal digit. -/
import Derived.Test.YtooflppljmnojaaRj
namespace Go.Proofs.Ytooflppljmnojaa
open Go.RowKit

def slash : ByteArray := ⟨#[47]⟩
/-- the text of a small fraction -/
def ftext (p q : Nat) : ByteArray := if q = 1 then dtext p else dtext p ++ slash ++ dtext q

set_option maxRecDepth 100000 in
set_option maxHeartbeats 2000000 in
theorem ref_Text1 (v : Value) (p q : Nat) (w : World) (hv : RdF w v false p q) (ok : OkF false p q) (hp : p < 10) (hq : q < 10) :
    Calls Try.prog 8 #[v] w (Ret w (.string (ftext p q))) := by
  have HV := hid (fun W (hb : Below w.heap.size w W) => ref_Valid v false p q W (hv.kept hb) ok.pos ok.low ok.sign ok.num ok.den)
  obtain ⟨a, c, a', c', rfl, h1, h2⟩ := hv
  have HT1 := hid (fun W (hb : Below w.heap.size w W) => ref_TextBig1 p a c W (h1.kept hb) hp)
  have HT2 := hid (fun W (hb : Below w.heap.size w W) => ref_TextBig1 q a' c' W (h2.kept hb) hq)
  have hd1 : dig 1 = [1] := dig_one_digit (by omega) (by omega)
  have HD1 := hid hd1
  have HC1 := hid (fun W v1 (hy : Rd32 W v1 (dig 1)) (hb : Below w.heap.size w W) => ref_cmp _ v1 _ _ W (h2.kept hb) hy)
  have hF1 : q = 1 → ftext p q = dtext p := fun h => by unfold ftext; rw [if_pos h]
  have hF2 : q ≠ 1 → ftext p q = dtext p ++ slash ++ dtext q := fun h => by unfold ftext; rw [if_neg h]
  have HF1 := hid hF1
  have HF2 := hid hF2
  have hs1 : (dtext p).size = 1 := rfl
  have hs2 : (dtext q).size = 1 := rfl
  clear h1 h2 hd1 hF1 hF2
  generalize ftext p q = F at *
  have hsl : (dtext p ++ slash).size = 2 := by rw [ByteArray.size_append]; rfl
  generalize dtext p = P at *
  generalize dtext q = Q at *
  generalize (dig p).length = L at *
  generalize hL' : (dig q).length = L' at *
  clear hL'
  by_cases hq1 : q = 1
  all_goals
    have HQ1 := hid hq1
    go_enter Try.func8, Try.ntmps8
    go_wp2_with fail
    with_reducible refine (HV.out _ (by repeat' (first | (with_reducible exact Below.refl _ _) | (with_reducible assumption) | (with_reducible refine below_drewN ?_) | (with_reducible refine Below.alloc ?_ ?_ _) | (with_reducible refine Below.drew ?_) | (with_reducible refine Below.setCell ?_ ?_ _) | (with_reducible refine Below.trans ?_ (Below.mono (by with_reducible assumption) ?_)) | go_size))).mono ?_
    rintro e w1 ⟨rfl, hb1⟩
    have hz1 := hb1.size
    have k0 := cell_later hb1 (a := ⟨w.heap.size, 0, none⟩) (v := .bool false) (by go_cell)
    have k1 := cell_later hb1 (a := ⟨w.heap.size, 1, none⟩) (v := .slice a L c) (by go_cell)
    have k2 := cell_later hb1 (a := ⟨w.heap.size, 2, none⟩) (v := .bool false) (by go_cell)
    have k3 := cell_later hb1 (a := ⟨w.heap.size, 3, none⟩) (v := .slice a' L' c') (by go_cell)
    have hA1 : Below w.heap.size w w1 := by repeat' (first | (with_reducible exact Below.refl _ _) | (with_reducible assumption) | (with_reducible refine below_drewN ?_) | (with_reducible refine Below.alloc ?_ ?_ _) | (with_reducible refine Below.drew ?_) | (with_reducible refine Below.setCell ?_ ?_ _) | (with_reducible refine Below.trans ?_ (Below.mono (by with_reducible assumption) ?_)) | go_size)
    clear hb1
    simp at hz1
    go_wp2_with fail
    have hn1 : Rd32 (w1.alloc (.cells #[.int .u32 1] 44)) (.slice (some ⟨w1.heap.size, 0, none⟩) 1 1) [1] := Rd32.new1 w1 1 44 w1.heap.size rfl (by omega)
    rw [← HD1.out] at hn1
    have hcc := HC1.out _ _ hn1 (hA1.alloc (by omega) _)
    rw [cmpL_dig] at hcc
    have HCC := hid hcc
    clear hcc hn1
    with_reducible refine HCC.out.mono ?_
    rintro e w2 ⟨rfl, k2', rfl⟩
    have hlt : w.heap.size < w1.heap.size := by omega
    have hne : w.heap.size ≠ w1.heap.size := by omega
    clear hq1
  · have hsg : sgn q 1 = 0 := sgn_zero.2 HQ1.out
    generalize sgn q 1 = sg at *
    subst hsg
    have j1 : ∀ k, (((w1.alloc (.cells #[.int .u32 1] 44)).drewN k)).cell? ⟨w.heap.size, 0, none⟩ = some (.bool false) := fun k => by
      rw [World.cell?_drewN, World.cell?_alloc_lt _ _ _ hlt]; exact k0
    go_wp2_with fail
    with_reducible refine (HT1.out _ (by repeat' (first | (with_reducible exact Below.refl _ _) | (with_reducible assumption) | (with_reducible refine below_drewN ?_) | (with_reducible refine Below.alloc ?_ ?_ _) | (with_reducible refine Below.drew ?_) | (with_reducible refine Below.setCell ?_ ?_ _) | (with_reducible refine Below.trans ?_ (Below.mono (by with_reducible assumption) ?_)) | go_size))).mono ?_
    rintro e w3 ⟨rfl, hb3⟩
    go_wp2
    go_ret
    exact ⟨by rw [HF1.out HQ1.out]; rfl, by repeat' (first | (with_reducible exact Below.refl _ _) | (with_reducible assumption) | (with_reducible refine below_drewN ?_) | (with_reducible refine Below.alloc ?_ ?_ _) | (with_reducible refine Below.drew ?_) | (with_reducible refine Below.setCell ?_ ?_ _) | (with_reducible refine Below.trans ?_ (Below.mono (by with_reducible assumption) ?_)) | go_size)⟩
  · have hsg : ¬ sgn q 1 = 0 := fun h => HQ1.out (sgn_zero.1 h)
    have hsb : (sgn q 1 == 0) = false := by simpa using hsg
    generalize sgn q 1 = sg at *
    clear hsg
    go_wp2
    have m0 : ((w1.alloc (.cells #[.int .u32 1] 44)).drewN k2').cell? ⟨w.heap.size, 0, none⟩ = some (.bool false) := by rw [World.cell?_drewN, World.cell?_alloc_lt _ _ _ hlt]; exact k0
    have m1 : ((w1.alloc (.cells #[.int .u32 1] 44)).drewN k2').cell? ⟨w.heap.size, 1, none⟩ = some (.slice a L c) := by rw [World.cell?_drewN, World.cell?_alloc_lt _ _ _ hlt]; exact k1
    have m2 : ((w1.alloc (.cells #[.int .u32 1] 44)).drewN k2').cell? ⟨w.heap.size, 2, none⟩ = some (.bool false) := by rw [World.cell?_drewN, World.cell?_alloc_lt _ _ _ hlt]; exact k2
    have m3 : ((w1.alloc (.cells #[.int .u32 1] 44)).drewN k2').cell? ⟨w.heap.size, 3, none⟩ = some (.slice a' L' c') := by rw [World.cell?_drewN, World.cell?_alloc_lt _ _ _ hlt]; exact k3
    have hA2 : Below w.heap.size w ((w1.alloc (.cells #[.int .u32 1] 44)).drewN k2') := by repeat' (first | (with_reducible exact Below.refl _ _) | (with_reducible assumption) | (with_reducible refine below_drewN ?_) | (with_reducible refine Below.alloc ?_ ?_ _) | (with_reducible refine Below.drew ?_) | (with_reducible refine Below.setCell ?_ ?_ _) | (with_reducible refine Below.trans ?_ (Below.mono (by with_reducible assumption) ?_)) | go_size)
    have hz2 : w1.heap.size + 1 = ((w1.alloc (.cells #[.int .u32 1] 44)).drewN k2').heap.size := by simp
    generalize (w1.alloc (.cells #[.int .u32 1] 44)).drewN k2' = W at *
    have hz3 : w1.heap.size + 1 ≤ W.heap.size := by omega
    clear hz2 k0 k1 k2 k3
    go_region_held3 (fun w' => w'.cell? ⟨w.heap.size, 0, none⟩ = some (.bool false) ∧ w'.cell? ⟨w.heap.size, 1, none⟩ = some (.slice a L c) ∧ w'.cell? ⟨w.heap.size, 2, none⟩ = some (.bool false) ∧ w'.cell? ⟨w.heap.size, 3, none⟩ = some (.slice a' L' c')) (first | exact ⟨m0, m1, m2, m3⟩ | exact ⟨n0, n1, n2, n3⟩ | exact ⟨o0, o1, o2, o3⟩ | go_keep)
      (first
        | (go_at_call_of 17 (c); go_must (((with_reducible refine (HT1.out _ (by repeat' (first | (with_reducible exact Below.refl _ _) | (with_reducible assumption) | (with_reducible refine below_drewN ?_) | (with_reducible refine Below.alloc ?_ ?_ _) | (with_reducible refine Below.drew ?_) | (with_reducible refine Below.setCell ?_ ?_ _) | (with_reducible refine Below.trans ?_ (Below.mono (by with_reducible assumption) ?_)) | go_size))).mono ?_); rintro e w4 ⟨rfl, hb4⟩; have hz4 := hb4.size; (try simp at hz4); have n0 := cell_later hb4 (a := ⟨w.heap.size, 0, none⟩) (v := .bool false) (by go_cell); have n1 := cell_later hb4 (a := ⟨w.heap.size, 1, none⟩) (v := .slice a L c) (by go_cell); have n2 := cell_later hb4 (a := ⟨w.heap.size, 2, none⟩) (v := .bool false) (by go_cell); have n3 := cell_later hb4 (a := ⟨w.heap.size, 3, none⟩) (v := .slice a' L' c') (by go_cell))))
        | (go_at_call_of 17 (c'); go_must (((with_reducible refine (HT2.out _ (by repeat' (first | (with_reducible exact Below.refl _ _) | (with_reducible assumption) | (with_reducible refine below_drewN ?_) | (with_reducible refine Below.alloc ?_ ?_ _) | (with_reducible refine Below.drew ?_) | (with_reducible refine Below.setCell ?_ ?_ _) | (with_reducible refine Below.trans ?_ (Below.mono (by with_reducible assumption) ?_)) | go_size))).mono ?_); rintro e w5 ⟨rfl, hb5⟩; have hz5 := hb5.size; (try simp at hz5); have o0 := cell_later hb5 (a := ⟨w.heap.size, 0, none⟩) (v := .bool false) (by go_cell); have o1 := cell_later hb5 (a := ⟨w.heap.size, 1, none⟩) (v := .slice a L c) (by go_cell); have o2 := cell_later hb5 (a := ⟨w.heap.size, 2, none⟩) (v := .bool false) (by go_cell); have o3 := cell_later hb5 (a := ⟨w.heap.size, 3, none⟩) (v := .slice a' L' c') (by go_cell)))))
    all_goals go_wp2
    all_goals go_goals
    all_goals go_ret
    all_goals exact ⟨by rw [HF2.out HQ1.out]; rfl, by repeat' (first | (with_reducible exact Below.refl _ _) | (with_reducible assumption) | (with_reducible refine below_drewN ?_) | (with_reducible refine Below.alloc ?_ ?_ _) | (with_reducible refine Below.drew ?_) | (with_reducible refine Below.setCell ?_ ?_ _) | (with_reducible refine Below.trans ?_ (Below.mono (by with_reducible assumption) ?_)) | go_size)⟩

end Go.Proofs.Ytooflppljmnojaa
