/- Contracts of the reference's texts of numbers of one decimal digit, and of fractions of such. -/
import Derived.Test.YtooflppljmnojaaRi
import Derived.Test.YtooflppljmnojaaApp
namespace Go.Proofs.Ytooflppljmnojaa
open Go.RowKit

/-- the text of a decimal digit -/
def dtext (n : Nat) : ByteArray := ⟨#[UInt8.ofNat (48 + n)]⟩

theorem dtext_ne : ∀ n, n < 10 → (dtext n).toList.isEmpty = false := by decide +kernel

set_option maxRecDepth 100000 in
set_option maxHeartbeats 2000000 in
theorem ref_TextBig1 (n : Nat) (a : Option Addr) (c : Nat) (w : World) (hx : Rd32 w (.slice a (dig n).length c) (dig n)) (hn : n < 10) :
    Calls Try.prog 17 #[.agg #[.bool false, .slice a (dig n).length c]] w (Ret w (.string (dtext n))) := by
  obtain ⟨i0, hi, hz0, hz1, hz2⟩ := info_parts info_u32
  have hl1 : (dig n).length ≤ 1 := dig_length_le (k := 1) (by omega)
  have hV := fun W (hb : Below w.heap.size w W) => ref_ValidBig (.agg #[.bool false, .slice a (dig n).length c]) false (dig n) W ⟨a, c, rfl, hx.kept hb⟩
  rw [okBig_false n (by omega)] at hV
  have HV := hid hV
  have HX := hid hx
  have HD := hid (digs_dig n)
  have HP := @dig_length_pos n
  clear hV hx
  by_cases h0 : n = 0
  · generalize (dig n).length = L at *
    obtain rfl : L = 0 := by omega
    subst h0
    clear HP HX HD hl1
    go_enter Try.func17, Try.ntmps17
    go_wp2_with fail
    with_reducible refine (HV.out _ (by repeat' (first | (with_reducible exact Below.refl _ _) | (with_reducible assumption) | (with_reducible refine below_drewN ?_) | (with_reducible refine Below.alloc ?_ ?_ _) | (with_reducible refine Below.drew ?_) | (with_reducible refine Below.setCell ?_ ?_ _) | (with_reducible refine Below.trans ?_ (Below.mono (by with_reducible assumption) ?_)) | go_size))).mono ?_
    rintro e w1 ⟨rfl, hb1⟩
    have hz1' := hb1.size
    have k0 := cell_later hb1 (a := ⟨w.heap.size, 0, none⟩) (v := .bool false) (by go_cell)
    have k1 := cell_later hb1 (a := ⟨w.heap.size, 1, none⟩) (v := .slice a 0 c) (by go_cell)
    have hA1 : Below w.heap.size w w1 := by repeat' (first | (with_reducible exact Below.refl _ _) | (with_reducible assumption) | (with_reducible refine below_drewN ?_) | (with_reducible refine Below.alloc ?_ ?_ _) | (with_reducible refine Below.drew ?_) | (with_reducible refine Below.setCell ?_ ?_ _) | (with_reducible refine Below.trans ?_ (Below.mono (by with_reducible assumption) ?_)) | go_size)
    have hown0 : (w1.alloc (.cells #[] 44)).ownsRow w1.heap.size 44 1 (.slice (some ⟨w1.heap.size, 0, none⟩) 0 0) 0 [] := World.ownsRow_made w1 #[] 0 (Nat.le_refl _) (Nat.zero_le _) rfl
    have HOWN := hid hown0
    clear hown0
    clear hb1
    simp at hz1'
    have hlt : w.heap.size < w1.heap.size := by omega
    have hne : w.heap.size ≠ w1.heap.size := by omega
    go_wp2_with (at_builtin; refine wpList_append_any _ rfl _ _ 23 23 rfl w1.heap.size 44 44 i0 (.int .u32 0) 1 4 Try.underlying23 Try.underlying23 hi hz0 hz1 hz2 rfl (by decide) _ _ _ rfl HOWN.out a 0 c ([].map U32) rfl rfl (fun h => by omega) (u32_one _) (by unfold maxLen; omega) (by omega) (by go_size) ?_)
    intro v' w2 hown hgrow _
    obtain ⟨hr1, hr2, _, a2, c2, rfl⟩ := rd_of_owns (xs := []) hown Digs.nil
    have hA2 : Below w1.heap.size w1 w2 := ((Below.refl _ w1).alloc (Nat.le_refl _) _).grown hgrow (by simp) (fun k hk => (HOWN.out.lt k hk).1)
    have hz2' := hA2.size
    have k2 := cell_later hA2 k0
    have k3 := cell_later hA2 k1
    clear hown hgrow HOWN hr1 hr2
    go_wp2
    refine wp_loop_rounds 1 ?_
    rw [rounds_succ]
    go_wp2
    go_ret
    exact ⟨by rfl, by repeat' (first | (with_reducible exact Below.refl _ _) | (with_reducible assumption) | (with_reducible refine below_drewN ?_) | (with_reducible refine Below.alloc ?_ ?_ _) | (with_reducible refine Below.drew ?_) | (with_reducible refine Below.setCell ?_ ?_ _) | (with_reducible refine Below.trans ?_ (Below.mono (by with_reducible assumption) ?_)) | go_size)⟩
  · have hdn := dig_one_digit (show 0 < n by omega) (show n < 4294967296 by omega)
    have hbs : bits BinOp.or IntKind.u64 0 (n : Int) = (n : Int) := by
      have := u64_or_nat 0 n (by omega) (by omega)
      rw [show ((0 : Nat) : Int) = 0 from rfl] at this
      rw [this, Nat.zero_or]
    have hq10 : (n : Int) / 10 = 0 := by omega
    have hr10 : (n : Int) % 10 = (n : Int) := by omega
    generalize (dig n).length = L at *
    obtain rfl : L = 1 := by omega
    rw [hdn] at HX HD
    clear HP hl1 hdn
    go_enter Try.func17, Try.ntmps17
    go_wp2_with fail
    with_reducible refine (HV.out _ (by repeat' (first | (with_reducible exact Below.refl _ _) | (with_reducible assumption) | (with_reducible refine below_drewN ?_) | (with_reducible refine Below.alloc ?_ ?_ _) | (with_reducible refine Below.drew ?_) | (with_reducible refine Below.setCell ?_ ?_ _) | (with_reducible refine Below.trans ?_ (Below.mono (by with_reducible assumption) ?_)) | go_size))).mono ?_
    rintro e w1 ⟨rfl, hb1⟩
    have hz1' := hb1.size
    have k0 := cell_later hb1 (a := ⟨w.heap.size, 0, none⟩) (v := .bool false) (by go_cell)
    have k1 := cell_later hb1 (a := ⟨w.heap.size, 1, none⟩) (v := .slice a 1 c) (by go_cell)
    have hA1 : Below w.heap.size w w1 := by repeat' (first | (with_reducible exact Below.refl _ _) | (with_reducible assumption) | (with_reducible refine below_drewN ?_) | (with_reducible refine Below.alloc ?_ ?_ _) | (with_reducible refine Below.drew ?_) | (with_reducible refine Below.setCell ?_ ?_ _) | (with_reducible refine Below.trans ?_ (Below.mono (by with_reducible assumption) ?_)) | go_size)
    have HS := hid ((HX.out.kept hA1).alloc (o := .cells #[] 44)).src
    have hown0 : (w1.alloc (.cells #[] 44)).ownsRow w1.heap.size 44 1 (.slice (some ⟨w1.heap.size, 0, none⟩) 0 0) 0 [] := World.ownsRow_made w1 #[] 0 (Nat.le_refl _) (Nat.zero_le _) rfl
    have HOWN := hid hown0
    clear hb1 hown0
    simp at hz1'
    have hlt : w.heap.size < w1.heap.size := by omega
    have hne : w.heap.size ≠ w1.heap.size := by omega
    go_wp2_with (at_builtin; refine wpList_append_any _ rfl _ _ 23 23 rfl w1.heap.size 44 44 i0 (.int .u32 0) 1 4 Try.underlying23 Try.underlying23 hi hz0 hz1 hz2 rfl (by decide) _ _ _ rfl HOWN.out a 1 c ([n].map U32) rfl HS.out.1 HS.out.2 (u32_one _) (by unfold maxLen; omega) (by omega) (by go_size) ?_)
    intro v' w2 hown hgrow _
    obtain ⟨g, cap, rfl, hcap, hcm, hg, hO⟩ := own32_of_owns hown HD.out (by omega)
    obtain ⟨hcz, hfz⟩ := hO.2.2.2 0 (by omega)
    have hO3 := hO.2.2.1
    simp only [List.getD_cons_zero] at hcz
    have hA2 : Below w1.heap.size w1 w2 := ((Below.refl _ w1).alloc (Nat.le_refl _) _).grown hgrow (by simp) (fun k hk => (HOWN.out.lt k hk).1)
    have hz2' := hA2.size
    have k2 := cell_later hA2 k0
    have k3 := cell_later hA2 k1
    have HO := hid hO
    clear hown hgrow HOWN HS hO
    unfold maxLen at hcm
    go_wp2
    refine wp_loop_rounds 2 ?_
    rw [rounds_succ]
    go_wp2
    refine wp_loop_rounds 2 ?_
    rw [rounds_succ]
    go_wp2
    rw [rounds_succ]
    go_wp2
    have hrd : Rd32 (w2.setCell ⟨g, 0, none⟩ (.int .u32 0)) (.slice (some ⟨g, 0, none⟩) 1 cap) [0] := (HO.out.set (show 0 < 1 by omega) (show 0 < 4294967296 by omega)).rd hcap (by unfold maxLen; omega)
    have k4 : (w2.setCell ⟨g, 0, none⟩ (.int .u32 0)).cell? ⟨w.heap.size, 0, none⟩ = some (.bool false) := by
      rw [World.cell?_setCell_other _ _ _ _ (by intro h; injection h with h; omega)]; exact k2
    have hA3 : Below w.heap.size w (w2.setCell ⟨g, 0, none⟩ (.int .u32 0)) := (hA1.trans (hA2.mono (by omega))).setCell (by simp; omega) _
    have hz3' : w2.heap.size = (w2.setCell ⟨g, 0, none⟩ (.int .u32 0)).heap.size := by simp
    have HRD := hid hrd
    rw [hr10]
    have HTR := hid (fun W (h : Rd32 W (.slice (some ⟨g, 0, none⟩) 1 cap) [0]) => ref_trim _ [0] W h)
    have HL0 : Hid ((dig (val [0])).length = 0) := by unfold Hid; rw [show val [0] = 0 from rfl, dig_zero]; rfl
    clear hrd hcz hfz k2 k3
    generalize w2.setCell ⟨g, 0, none⟩ (.int .u32 0) = W2 at *
    have hz4' : w2.heap.size ≤ W2.heap.size := by omega
    have hlt2 : w.heap.size < W2.heap.size := by omega
    clear hz3'
    have hw1 : IntKind.u8.wrap (n : Int) = (n : Int) := by rw [IntKind.wrap_u8]; omega
    have hw2 : IntKind.u8.wrap (48 + (n : Int)) = 48 + (n : Int) := by rw [IntKind.wrap_u8]; omega
    have hconv : ∀ (W : World) (b : Nat), W.cell? ⟨b, 0, none⟩ = some (.int .u8 (48 + (n : Int))) → (convert 53 9 (.slice (some ⟨b, 0, none⟩) 1 1)).run Try.prog W = .ok (.string (dtext n)) W := fun W b h => by
      have hcl : ∀ i, i < 1 → W.cell? ⟨b, 0 + i, none⟩ = some (.int .u8 ([48 + (n : Int)].getD i 0)) := fun i hi => by
        obtain rfl : i = 0 := by omega
        exact h
      rw [run_convert_bytes_arg W 53 5 Try.underlying53 Try.underlying5 b 0 1 1 [48 + (n : Int)] rfl hcl 9 Try.underlying9]
      have : (48 + (n : Int)).toNat = 48 + n := by omega
      simp [strOfNums, dtext, this]
    have hcat : dtext n ++ { data := #[] } = dtext n := by apply ByteArray.ext; simp [dtext]
    have hemp : (dtext n).toList.isEmpty = false := dtext_ne n hn
    have hsz : (dtext n).size = 1 := rfl
    have hnew : ∀ (k : Nat) (v : Value) (t : TypeId), ((W2.drewN k).alloc (.cells #[v] t)).cell? ⟨W2.heap.size, 0, none⟩ = some v := fun k v t => World.cell?_alloc_new (W2.drewN k) #[v] t 0
    go_region_with (first | (go_at_call 26; go_must ((refine (HTR.out _ (by first | exact HRD.out.drew | exact HRD.out.alloc.drew)).mono ?_; rintro e w5 ⟨a5, c5, rfl, hv5, ho5, k5, rfl⟩; clear hv5 ho5; rw [HL0.out]))))
    have hk : ∀ (k : Nat) (v : Value) (t : TypeId), ((W2.drewN k).alloc (.cells #[v] t)).cell? ⟨w.heap.size, 0, none⟩ = some (.bool false) := fun k v t => by
      rw [World.cell?_alloc_lt _ _ _ (show w.heap.size < (W2.drewN k).heap.size from hlt2)]; exact k4
    all_goals clear hconv hnew
    all_goals go_wp2
    all_goals rw [rounds_succ]
    all_goals go_wp2
    all_goals go_ret
    all_goals go_goals
    all_goals exact ⟨by rfl, by repeat' (first | (with_reducible exact Below.refl _ _) | (with_reducible assumption) | (with_reducible refine below_drewN ?_) | (with_reducible refine Below.alloc ?_ ?_ _) | (with_reducible refine Below.drew ?_) | (with_reducible refine Below.setCell ?_ ?_ _) | (with_reducible refine Below.trans ?_ (Below.mono (by with_reducible assumption) ?_)) | go_size)⟩

end Go.Proofs.Ytooflppljmnojaa
