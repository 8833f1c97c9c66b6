/- Contracts of the reference's texts of numbers of one decimal digit, and of fractions of such. Contract of the reference's Text, of fractions of one decimal digit. Scores as fractions: their comparison; the sanity check of the statements about layer 20 (Sa and Sb in this seat's words). Contracts of ref01.Same, ref01.SameFraction at equal fractions; ref19.SameHits at hits of the same columns. Contract of ref19.SameHits at hits of the same columns. Columns of rolled tables; all hits in order exist; law20's query. Contract of ref19.SameHits at hits of equal references and scores. Plain of OverlapProves: hits that a certificate proves are the first hits. -/
import Derived.Test.YtikiimlmoalbcaaGreatDoorOOtbo
import Derived.Test.YtikiimlmoalbcaaGreatDoorOOtas
import Derived.Test.YtikiimlmoalbcaaGreatDoorOOtau
import Derived.Deep.RegionHeld3
import Derived.Deep.Cut
import Derived.Test.YtikiimlmoalbcaaGreatDoorOOtbi
import Derived.Test.YtikiimlmoalbcaaGreatDoorOOtai
import Derived.Test.YtikiimlmoalbcaaGreatDoorOOtbl
import Derived.Test.YtikiimlmoalbcaaGreatDoorOOtbn
set_option linter.unusedVariables false
set_option linter.unusedSimpArgs false
namespace Go.Proofs.YtikiimlmoalbcaaGreatDoor.Fr
open Go.RowKit
def dtext (n : Nat) : ByteArray := ⟨#[UInt8.ofNat (48 + n)]⟩
theorem dtext_ne : ∀ n, n < 10 → (dtext n).toList.isEmpty = false := by decide +kernel
set_option maxRecDepth 100000 in
set_option maxHeartbeats 2000000 in
theorem ref_TextBig1 (n : Nat) (a : Option Addr) (c : Nat) (w : World) (hx : Rd32 w (.slice a (dig n).length c) (dig n)) (hn : n < 10) :
  Calls Tryz.prog 96 #[.agg #[.bool false, .slice a (dig n).length c]] w (Ret w (.string (dtext n))) := by
 obtain ⟨i0, hi, hz0, hz1, hz2⟩ := info_parts info_u32
 have hl1 : (dig n).length ≤ 1 := dig_length_le (k := 1) (by omega)
 have hV := fun W (hb : Below w.heap.size w W) => ref_ValidBig (.agg #[.bool false, .slice a (dig n).length c]) false (dig n) W ⟨a, c, rfl, hx.kept hb⟩
 rw [okBig_false n (by omega)] at hV
 have HV := hid hV
 have HX := hid hx
 have HD := hid (digs_dig n)
 have HP := @dig_length_pos n
 clear hV hx
 by_cases h0 : n = 0
 ·generalize (dig n).length = L at *
  obtain rfl : L = 0 := by omega
  subst h0
  clear HP HX HD hl1
  go_enter Tryz.func96, Tryz.ntmps96
  go_wp2_with fail
  with_reducible refine (HV.out _ (by repeat' (first | (with_reducible exact Below.refl _ _) | (with_reducible assumption) | (with_reducible refine below_drewN ?_) | (with_reducible refine Below.alloc ?_ ?_ _) | (with_reducible refine Below.drew ?_) | (with_reducible refine Below.setCell ?_ ?_ _) | (with_reducible refine Below.trans ?_ (Below.mono (by with_reducible assumption) ?_)) | go_size))).mono ?_
  rintro e w1 ⟨rfl, hb1⟩
  have hz1' := hb1.size
  have k0 := cell_later hb1 (a := ⟨w.heap.size, 0, none⟩) (v := .bool false) (by go_cell)
  have k1 := cell_later hb1 (a := ⟨w.heap.size, 1, none⟩) (v := .slice a 0 c) (by go_cell)
  have hA1 : Below w.heap.size w w1 := by repeat' (first | (with_reducible exact Below.refl _ _) | (with_reducible assumption) | (with_reducible refine below_drewN ?_) | (with_reducible refine Below.alloc ?_ ?_ _) | (with_reducible refine Below.drew ?_) | (with_reducible refine Below.setCell ?_ ?_ _) | (with_reducible refine Below.trans ?_ (Below.mono (by with_reducible assumption) ?_)) | go_size)
  have hown0 : (w1.alloc (.cells #[] 132)).ownsRow w1.heap.size 132 1 (.slice (some ⟨w1.heap.size, 0, none⟩) 0 0) 0 [] := World.ownsRow_made w1 #[] 0 (Nat.le_refl _) (Nat.zero_le _) rfl
  have HOWN := hid hown0
  clear hown0
  clear hb1
  simp at hz1'
  have hlt : w.heap.size < w1.heap.size := by omega
  have hne : w.heap.size ≠ w1.heap.size := by omega
  go_wp2_with (at_builtin; refine wpList_append_any _ rfl _ _ 41 41 rfl w1.heap.size 132 132 i0 (.int .u32 0) 1 4 Tryz.underlying41 Tryz.underlying41 hi hz0 hz1 hz2 rfl (by decide) _ _ _ rfl HOWN.out a 0 c ([].map U32) rfl rfl (fun h => by omega) (u32_one _) (by unfold maxLen; omega) (by omega) (by go_size) ?_)
  intro v' w2 hown hgrow _
  obtain ⟨hr1, hr2, _, a2, c2, rfl⟩ := rd_of_owns (xs := []) hown Digs.nil
  have hA2 : Below w1.heap.size w1 w2 := ((Below.refl _ w1).alloc (Nat.le_refl _) _).grown hgrow (by simp) (fun k hk => (HOWN.out.lt k hk).1)
  have hz2' := hA2.size
  have k2 := cell_later hA2 k0
  have k3 := cell_later hA2 k1
  clear hown hgrow HOWN hr1 hr2
  go_wp2
  refine wp_loop_rounds 1 ?_
  rw [rounds_succ]
  go_wp2
  go_ret
  exact ⟨by rfl, by repeat' (first | (with_reducible exact Below.refl _ _) | (with_reducible assumption) | (with_reducible refine below_drewN ?_) | (with_reducible refine Below.alloc ?_ ?_ _) | (with_reducible refine Below.drew ?_) | (with_reducible refine Below.setCell ?_ ?_ _) | (with_reducible refine Below.trans ?_ (Below.mono (by with_reducible assumption) ?_)) | go_size)⟩
 ·have hdn := dig_one_digit (show 0 < n by omega) (show n < 4294967296 by omega)
  have hbs : bits BinOp.or IntKind.u64 0 (n : Int) = (n : Int) := by
   have := u64_or_nat 0 n (by omega) (by omega)
   rw [show ((0 : Nat) : Int) = 0 from rfl] at this
   rw [this, Nat.zero_or]
  have hq10 : (n : Int) / 10 = 0 := by omega
  have hr10 : (n : Int) % 10 = (n : Int) := by omega
  generalize (dig n).length = L at *
  obtain rfl : L = 1 := by omega
  rw [hdn] at HX HD
  clear HP hl1 hdn
  go_enter Tryz.func96, Tryz.ntmps96
  go_wp2_with fail
  with_reducible refine (HV.out _ (by repeat' (first | (with_reducible exact Below.refl _ _) | (with_reducible assumption) | (with_reducible refine below_drewN ?_) | (with_reducible refine Below.alloc ?_ ?_ _) | (with_reducible refine Below.drew ?_) | (with_reducible refine Below.setCell ?_ ?_ _) | (with_reducible refine Below.trans ?_ (Below.mono (by with_reducible assumption) ?_)) | go_size))).mono ?_
  rintro e w1 ⟨rfl, hb1⟩
  have hz1' := hb1.size
  have k0 := cell_later hb1 (a := ⟨w.heap.size, 0, none⟩) (v := .bool false) (by go_cell)
  have k1 := cell_later hb1 (a := ⟨w.heap.size, 1, none⟩) (v := .slice a 1 c) (by go_cell)
  have hA1 : Below w.heap.size w w1 := by repeat' (first | (with_reducible exact Below.refl _ _) | (with_reducible assumption) | (with_reducible refine below_drewN ?_) | (with_reducible refine Below.alloc ?_ ?_ _) | (with_reducible refine Below.drew ?_) | (with_reducible refine Below.setCell ?_ ?_ _) | (with_reducible refine Below.trans ?_ (Below.mono (by with_reducible assumption) ?_)) | go_size)
  have HS := hid ((HX.out.kept hA1).alloc (o := .cells #[] 132)).src
  have hown0 : (w1.alloc (.cells #[] 132)).ownsRow w1.heap.size 132 1 (.slice (some ⟨w1.heap.size, 0, none⟩) 0 0) 0 [] := World.ownsRow_made w1 #[] 0 (Nat.le_refl _) (Nat.zero_le _) rfl
  have HOWN := hid hown0
  clear hb1 hown0
  simp at hz1'
  have hlt : w.heap.size < w1.heap.size := by omega
  have hne : w.heap.size ≠ w1.heap.size := by omega
  go_wp2_with (at_builtin; refine wpList_append_any _ rfl _ _ 41 41 rfl w1.heap.size 132 132 i0 (.int .u32 0) 1 4 Tryz.underlying41 Tryz.underlying41 hi hz0 hz1 hz2 rfl (by decide) _ _ _ rfl HOWN.out a 1 c ([n].map U32) rfl HS.out.1 HS.out.2 (u32_one _) (by unfold maxLen; omega) (by omega) (by go_size) ?_)
  intro v' w2 hown hgrow _
  obtain ⟨g, cap, rfl, hcap, hcm, hg, hO⟩ := own32_of_owns hown HD.out (by omega)
  obtain ⟨hcz, hfz⟩ := hO.2.2.2 0 (by omega)
  have hO3 := hO.2.2.1
  simp only [List.getD_cons_zero] at hcz
  have hA2 : Below w1.heap.size w1 w2 := ((Below.refl _ w1).alloc (Nat.le_refl _) _).grown hgrow (by simp) (fun k hk => (HOWN.out.lt k hk).1)
  have hz2' := hA2.size
  have k2 := cell_later hA2 k0
  have k3 := cell_later hA2 k1
  have HO := hid hO
  clear hown hgrow HOWN HS hO
  unfold maxLen at hcm
  go_wp2
  refine wp_loop_rounds 2 ?_
  rw [rounds_succ]
  go_wp2
  refine wp_loop_rounds 2 ?_
  rw [rounds_succ]
  go_wp2
  rw [rounds_succ]
  go_wp2
  have hrd : Rd32 (w2.setCell ⟨g, 0, none⟩ (.int .u32 0)) (.slice (some ⟨g, 0, none⟩) 1 cap) [0] := (HO.out.set (show 0 < 1 by omega) (show 0 < 4294967296 by omega)).rd hcap (by unfold maxLen; omega)
  have k4 : (w2.setCell ⟨g, 0, none⟩ (.int .u32 0)).cell? ⟨w.heap.size, 0, none⟩ = some (.bool false) := by
   rw [World.cell?_setCell_other _ _ _ _ (by intro h; injection h with h; omega)]; exact k2
  have hA3 : Below w.heap.size w (w2.setCell ⟨g, 0, none⟩ (.int .u32 0)) := (hA1.trans (hA2.mono (by omega))).setCell (by simp; omega) _
  have hz3' : w2.heap.size = (w2.setCell ⟨g, 0, none⟩ (.int .u32 0)).heap.size := by simp
  have HRD := hid hrd
  rw [hr10]
  have HTR := hid (fun W (h : Rd32 W (.slice (some ⟨g, 0, none⟩) 1 cap) [0]) => ref_trim _ [0] W h)
  have HL0 : Hid ((dig (val [0])).length = 0) := by unfold Hid; rw [show val [0] = 0 from rfl, dig_zero]; rfl
  clear hrd hcz hfz k2 k3
  generalize w2.setCell ⟨g, 0, none⟩ (.int .u32 0) = W2 at *
  have hz4' : w2.heap.size ≤ W2.heap.size := by omega
  have hlt2 : w.heap.size < W2.heap.size := by omega
  clear hz3'
  have hw1 : IntKind.u8.wrap (n : Int) = (n : Int) := by rw [IntKind.wrap_u8]; omega
  have hw2 : IntKind.u8.wrap (48 + (n : Int)) = 48 + (n : Int) := by rw [IntKind.wrap_u8]; omega
  have hconv : ∀ (W : World) (b : Nat), W.cell? ⟨b, 0, none⟩ = some (.int .u8 (48 + (n : Int))) → (convert 22 9 (.slice (some ⟨b, 0, none⟩) 1 1)).run Tryz.prog W = .ok (.string (dtext n)) W := fun W b h => by
   have hcl : ∀ i, i < 1 → W.cell? ⟨b, 0 + i, none⟩ = some (.int .u8 ([48 + (n : Int)].getD i 0)) := fun i hi => by
    obtain rfl : i = 0 := by omega
    exact h
   rw [run_convert_bytes_arg W 22 5 Tryz.underlying22 Tryz.underlying5 b 0 1 1 [48 + (n : Int)] rfl hcl 9 Tryz.underlying9]
   have : (48 + (n : Int)).toNat = 48 + n := by omega
   simp [strOfNums, dtext, this]
  have hcat : dtext n ++ { data := #[] } = dtext n := by apply ByteArray.ext; simp [dtext]
  have hemp : (dtext n).toList.isEmpty = false := dtext_ne n hn
  have hsz : (dtext n).size = 1 := rfl
  have hnew : ∀ (k : Nat) (v : Value) (t : TypeId), ((W2.drewN k).alloc (.cells #[v] t)).cell? ⟨W2.heap.size, 0, none⟩ = some v := fun k v t => World.cell?_alloc_new (W2.drewN k) #[v] t 0
  go_region_with (first | (go_at_call 147; go_must ((refine (HTR.out _ (by first | exact HRD.out.drew | exact HRD.out.alloc.drew)).mono ?_; rintro e w5 ⟨a5, c5, rfl, hv5, ho5, k5, rfl⟩; clear hv5 ho5; rw [HL0.out]))))
  have hk : ∀ (k : Nat) (v : Value) (t : TypeId), ((W2.drewN k).alloc (.cells #[v] t)).cell? ⟨w.heap.size, 0, none⟩ = some (.bool false) := fun k v t => by
   rw [World.cell?_alloc_lt _ _ _ (show w.heap.size < (W2.drewN k).heap.size from hlt2)]; exact k4
  all_goals clear hconv hnew
  all_goals go_wp2
  all_goals rw [rounds_succ]
  all_goals go_wp2
  all_goals go_ret
  all_goals go_goals
  all_goals exact ⟨by rfl, by repeat' (first | (with_reducible exact Below.refl _ _) | (with_reducible assumption) | (with_reducible refine below_drewN ?_) | (with_reducible refine Below.alloc ?_ ?_ _) | (with_reducible refine Below.drew ?_) | (with_reducible refine Below.setCell ?_ ?_ _) | (with_reducible refine Below.trans ?_ (Below.mono (by with_reducible assumption) ?_)) | go_size)⟩
end Go.Proofs.YtikiimlmoalbcaaGreatDoor.Fr

namespace Go.Proofs.YtikiimlmoalbcaaGreatDoor.Fr
open Go.RowKit
def slash : ByteArray := ⟨#[47]⟩
def ftext (p q : Nat) : ByteArray := if q = 1 then dtext p else dtext p ++ slash ++ dtext q
set_option maxRecDepth 100000 in
set_option maxHeartbeats 2000000 in
theorem ref_Text1 (v : Value) (p q : Nat) (w : World) (hv : RdF w v false p q) (ok : OkF false p q) (hp : p < 10) (hq : q < 10) :
  Calls Tryz.prog 47 #[v] w (Ret w (.string (ftext p q))) := by
 have HV := hid (fun W (hb : Below w.heap.size w W) => ref_Valid v false p q W (hv.kept hb) ok.pos ok.low ok.sign ok.num ok.den)
 obtain ⟨a, c, a', c', rfl, h1, h2⟩ := hv
 have HT1 := hid (fun W (hb : Below w.heap.size w W) => ref_TextBig1 p a c W (h1.kept hb) hp)
 have HT2 := hid (fun W (hb : Below w.heap.size w W) => ref_TextBig1 q a' c' W (h2.kept hb) hq)
 have hd1 : dig 1 = [1] := dig_one_digit (by omega) (by omega)
 have HD1 := hid hd1
 have HC1 := hid (fun W v1 (hy : Rd32 W v1 (dig 1)) (hb : Below w.heap.size w W) => ref_cmp _ v1 _ _ W (h2.kept hb) hy)
 have hF1 : q = 1 → ftext p q = dtext p := fun h => by unfold ftext; rw [if_pos h]
 have hF2 : q ≠ 1 → ftext p q = dtext p ++ slash ++ dtext q := fun h => by unfold ftext; rw [if_neg h]
 have HF1 := hid hF1
 have HF2 := hid hF2
 have hs1 : (dtext p).size = 1 := rfl
 have hs2 : (dtext q).size = 1 := rfl
 clear h1 h2 hd1 hF1 hF2
 generalize ftext p q = F at *
 have hsl : (dtext p ++ slash).size = 2 := by rw [ByteArray.size_append]; rfl
 generalize dtext p = P at *
 generalize dtext q = Q at *
 generalize (dig p).length = L at *
 generalize hL' : (dig q).length = L' at *
 clear hL'
 by_cases hq1 : q = 1
 all_goals
  have HQ1 := hid hq1
  go_enter Tryz.func47, Tryz.ntmps47
  go_wp2_with fail
  with_reducible refine (HV.out _ (by repeat' (first | (with_reducible exact Below.refl _ _) | (with_reducible assumption) | (with_reducible refine below_drewN ?_) | (with_reducible refine Below.alloc ?_ ?_ _) | (with_reducible refine Below.drew ?_) | (with_reducible refine Below.setCell ?_ ?_ _) | (with_reducible refine Below.trans ?_ (Below.mono (by with_reducible assumption) ?_)) | go_size))).mono ?_
  rintro e w1 ⟨rfl, hb1⟩
  have hz1 := hb1.size
  have k0 := cell_later hb1 (a := ⟨w.heap.size, 0, none⟩) (v := .bool false) (by go_cell)
  have k1 := cell_later hb1 (a := ⟨w.heap.size, 1, none⟩) (v := .slice a L c) (by go_cell)
  have k2 := cell_later hb1 (a := ⟨w.heap.size, 2, none⟩) (v := .bool false) (by go_cell)
  have k3 := cell_later hb1 (a := ⟨w.heap.size, 3, none⟩) (v := .slice a' L' c') (by go_cell)
  have hA1 : Below w.heap.size w w1 := by repeat' (first | (with_reducible exact Below.refl _ _) | (with_reducible assumption) | (with_reducible refine below_drewN ?_) | (with_reducible refine Below.alloc ?_ ?_ _) | (with_reducible refine Below.drew ?_) | (with_reducible refine Below.setCell ?_ ?_ _) | (with_reducible refine Below.trans ?_ (Below.mono (by with_reducible assumption) ?_)) | go_size)
  clear hb1
  simp at hz1
  go_wp2_with fail
  have hn1 : Rd32 (w1.alloc (.cells #[.int .u32 1] 132)) (.slice (some ⟨w1.heap.size, 0, none⟩) 1 1) [1] := Rd32.new1 w1 1 132 w1.heap.size rfl (by omega)
  rw [← HD1.out] at hn1
  have hcc := HC1.out _ _ hn1 (hA1.alloc (by omega) _)
  rw [cmpL_dig] at hcc
  have HCC := hid hcc
  clear hcc hn1
  with_reducible refine HCC.out.mono ?_
  rintro e w2 ⟨rfl, k2', rfl⟩
  have hlt : w.heap.size < w1.heap.size := by omega
  have hne : w.heap.size ≠ w1.heap.size := by omega
  clear hq1
 ·have hsg : sgn q 1 = 0 := sgn_zero.2 HQ1.out
  generalize sgn q 1 = sg at *
  subst hsg
  have j1 : ∀ k, (((w1.alloc (.cells #[.int .u32 1] 132)).drewN k)).cell? ⟨w.heap.size, 0, none⟩ = some (.bool false) := fun k => by
   rw [World.cell?_drewN, World.cell?_alloc_lt _ _ _ hlt]; exact k0
  go_wp2_with fail
  with_reducible refine (HT1.out _ (by repeat' (first | (with_reducible exact Below.refl _ _) | (with_reducible assumption) | (with_reducible refine below_drewN ?_) | (with_reducible refine Below.alloc ?_ ?_ _) | (with_reducible refine Below.drew ?_) | (with_reducible refine Below.setCell ?_ ?_ _) | (with_reducible refine Below.trans ?_ (Below.mono (by with_reducible assumption) ?_)) | go_size))).mono ?_
  rintro e w3 ⟨rfl, hb3⟩
  go_wp2
  go_ret
  exact ⟨by rw [HF1.out HQ1.out]; rfl, by repeat' (first | (with_reducible exact Below.refl _ _) | (with_reducible assumption) | (with_reducible refine below_drewN ?_) | (with_reducible refine Below.alloc ?_ ?_ _) | (with_reducible refine Below.drew ?_) | (with_reducible refine Below.setCell ?_ ?_ _) | (with_reducible refine Below.trans ?_ (Below.mono (by with_reducible assumption) ?_)) | go_size)⟩
 ·have hsg : ¬ sgn q 1 = 0 := fun h => HQ1.out (sgn_zero.1 h)
  have hsb : (sgn q 1 == 0) = false := by simpa using hsg
  generalize sgn q 1 = sg at *
  clear hsg
  go_wp2
  have m0 : ((w1.alloc (.cells #[.int .u32 1] 132)).drewN k2').cell? ⟨w.heap.size, 0, none⟩ = some (.bool false) := by rw [World.cell?_drewN, World.cell?_alloc_lt _ _ _ hlt]; exact k0
  have m1 : ((w1.alloc (.cells #[.int .u32 1] 132)).drewN k2').cell? ⟨w.heap.size, 1, none⟩ = some (.slice a L c) := by rw [World.cell?_drewN, World.cell?_alloc_lt _ _ _ hlt]; exact k1
  have m2 : ((w1.alloc (.cells #[.int .u32 1] 132)).drewN k2').cell? ⟨w.heap.size, 2, none⟩ = some (.bool false) := by rw [World.cell?_drewN, World.cell?_alloc_lt _ _ _ hlt]; exact k2
  have m3 : ((w1.alloc (.cells #[.int .u32 1] 132)).drewN k2').cell? ⟨w.heap.size, 3, none⟩ = some (.slice a' L' c') := by rw [World.cell?_drewN, World.cell?_alloc_lt _ _ _ hlt]; exact k3
  have hA2 : Below w.heap.size w ((w1.alloc (.cells #[.int .u32 1] 132)).drewN k2') := by repeat' (first | (with_reducible exact Below.refl _ _) | (with_reducible assumption) | (with_reducible refine below_drewN ?_) | (with_reducible refine Below.alloc ?_ ?_ _) | (with_reducible refine Below.drew ?_) | (with_reducible refine Below.setCell ?_ ?_ _) | (with_reducible refine Below.trans ?_ (Below.mono (by with_reducible assumption) ?_)) | go_size)
  have hz2 : w1.heap.size + 1 = ((w1.alloc (.cells #[.int .u32 1] 132)).drewN k2').heap.size := by simp
  generalize (w1.alloc (.cells #[.int .u32 1] 132)).drewN k2' = W at *
  have hz3 : w1.heap.size + 1 ≤ W.heap.size := by omega
  clear hz2 k0 k1 k2 k3
  go_region_held3 (fun w' => w'.cell? ⟨w.heap.size, 0, none⟩ = some (.bool false) ∧ w'.cell? ⟨w.heap.size, 1, none⟩ = some (.slice a L c) ∧ w'.cell? ⟨w.heap.size, 2, none⟩ = some (.bool false) ∧ w'.cell? ⟨w.heap.size, 3, none⟩ = some (.slice a' L' c')) (first | exact ⟨m0, m1, m2, m3⟩ | exact ⟨n0, n1, n2, n3⟩ | exact ⟨o0, o1, o2, o3⟩ | go_keep)
   (first
    | (go_at_call_of 96 (c); go_must (((with_reducible refine (HT1.out _ (by repeat' (first | (with_reducible exact Below.refl _ _) | (with_reducible assumption) | (with_reducible refine below_drewN ?_) | (with_reducible refine Below.alloc ?_ ?_ _) | (with_reducible refine Below.drew ?_) | (with_reducible refine Below.setCell ?_ ?_ _) | (with_reducible refine Below.trans ?_ (Below.mono (by with_reducible assumption) ?_)) | go_size))).mono ?_); rintro e w4 ⟨rfl, hb4⟩; have hz4 := hb4.size; (try simp at hz4); have n0 := cell_later hb4 (a := ⟨w.heap.size, 0, none⟩) (v := .bool false) (by go_cell); have n1 := cell_later hb4 (a := ⟨w.heap.size, 1, none⟩) (v := .slice a L c) (by go_cell); have n2 := cell_later hb4 (a := ⟨w.heap.size, 2, none⟩) (v := .bool false) (by go_cell); have n3 := cell_later hb4 (a := ⟨w.heap.size, 3, none⟩) (v := .slice a' L' c') (by go_cell))))
    | (go_at_call_of 96 (c'); go_must (((with_reducible refine (HT2.out _ (by repeat' (first | (with_reducible exact Below.refl _ _) | (with_reducible assumption) | (with_reducible refine below_drewN ?_) | (with_reducible refine Below.alloc ?_ ?_ _) | (with_reducible refine Below.drew ?_) | (with_reducible refine Below.setCell ?_ ?_ _) | (with_reducible refine Below.trans ?_ (Below.mono (by with_reducible assumption) ?_)) | go_size))).mono ?_); rintro e w5 ⟨rfl, hb5⟩; have hz5 := hb5.size; (try simp at hz5); have o0 := cell_later hb5 (a := ⟨w.heap.size, 0, none⟩) (v := .bool false) (by go_cell); have o1 := cell_later hb5 (a := ⟨w.heap.size, 1, none⟩) (v := .slice a L c) (by go_cell); have o2 := cell_later hb5 (a := ⟨w.heap.size, 2, none⟩) (v := .bool false) (by go_cell); have o3 := cell_later hb5 (a := ⟨w.heap.size, 3, none⟩) (v := .slice a' L' c') (by go_cell)))))
  all_goals go_wp2
  all_goals go_goals
  all_goals go_ret
  all_goals exact ⟨by rw [HF2.out HQ1.out]; rfl, by repeat' (first | (with_reducible exact Below.refl _ _) | (with_reducible assumption) | (with_reducible refine below_drewN ?_) | (with_reducible refine Below.alloc ?_ ?_ _) | (with_reducible refine Below.drew ?_) | (with_reducible refine Below.setCell ?_ ?_ _) | (with_reducible refine Below.trans ?_ (Below.mono (by with_reducible assumption) ?_)) | go_size)⟩
end Go.Proofs.YtikiimlmoalbcaaGreatDoor.Fr

namespace Go.Proofs.YtikiimlmoalbcaaGreatDoor.Fr
open Go.RowKit
theorem small_pow {n : Nat} (h : n < 4294967296) : n < 4294967296 ^ 256 :=
 Nat.lt_of_lt_of_le h (by have := Nat.pow_le_pow_right (n := 4294967296) (by omega) (show 1 ≤ 256 by omega); rwa [Nat.pow_one] at this)
end Go.Proofs.YtikiimlmoalbcaaGreatDoor.Fr

namespace Go.Proofs.YtikiimlmoalbcaaGreatDoor
open Go.RowKit
set_option maxRecDepth 100000 in
set_option maxHeartbeats 2000000 in
theorem ref_SameI (n : Nat) (a b : Option Addr) (c d : Nat) (w : World) (hx : Fr.Rd32 w (.slice a (Fr.dig n).length c) (Fr.dig n)) (hy : Fr.Rd32 w (.slice b (Fr.dig n).length d) (Fr.dig n)) :
  Calls Tryz.prog 93 #[.agg #[.bool false, .slice a (Fr.dig n).length c], .agg #[.bool false, .slice b (Fr.dig n).length d]] w (Ret w (.bool true)) := by
 have HCM := hid (fun W (hW : Below w.heap.size w W) => Fr.ref_cmp _ _ (Fr.dig n) (Fr.dig n) W (hx.kept hW) (hy.kept hW))
 have hb0 : Below w.heap.size w ((w.alloc (.cells #[.bool false, .slice a (Fr.dig n).length c] 43)).alloc (.cells #[.bool false, .slice b (Fr.dig n).length d] 43)) := ((Below.refl w.heap.size w).alloc (Nat.le_refl _) _).alloc (by rw [World.size_alloc]; omega) _
 have hX := (BoxN.new w #[.bool false, .slice a (Fr.dig n).length c] 43).alloc (.cells #[.bool false, .slice b (Fr.dig n).length d] 43)
 have hY := BoxN.new (w.alloc (.cells #[.bool false, .slice a (Fr.dig n).length c] 43)) #[.bool false, .slice b (Fr.dig n).length d] 43
 rw [World.size_alloc] at hY
 have x0 := hX.cell 0 rfl
 have x1 := hX.cell 1 rfl
 have y0 := hY.cell 0 rfl
 have y1 := hY.cell 1 rfl
 have HB0 := hid hb0
 have HZ : Hid (Fr.cmpL (Fr.dig n) (Fr.dig n) = 0) := hid (by rw [Fr.cmpL_dig, Fr.sgn_self])
 clear hx hy hX hY hb0
 generalize Fr.dig n = L at *
 generalize Fr.cmpL L L = z at *
 go_enter Tryz.func93, Tryz.ntmps93
 go_wp2_with fail
 with_reducible refine (HCM.out _ HB0.out).mono ?_
 rintro e w2 hq
 have hr := hq.ret
 rw [HZ.out] at hr
 obtain ⟨rfl, hb2⟩ := hr
 have HB2 := hid (HB0.out.trans (hb2.mono HB0.out.size))
 clear hb2 hq x0 x1 y0 y1
 go_wp2
 go_ret
 exact ⟨rfl, HB2.out⟩
set_option maxRecDepth 100000 in
set_option maxHeartbeats 2000000 in
theorem ref_SameF (p q : Nat) (a b a' b' : Option Addr) (c d c' d' : Nat) (w : World) (hu : Fr.RdF w (.agg #[.bool false, .slice a (Fr.dig p).length c, .bool false, .slice b (Fr.dig q).length d]) false p q) (hv : Fr.RdF w (.agg #[.bool false, .slice a' (Fr.dig p).length c', .bool false, .slice b' (Fr.dig q).length d']) false p q) :
  Calls Tryz.prog 45 #[.agg #[.bool false, .slice a (Fr.dig p).length c, .bool false, .slice b (Fr.dig q).length d], .agg #[.bool false, .slice a' (Fr.dig p).length c', .bool false, .slice b' (Fr.dig q).length d']] w (Ret w (.bool true)) := by
 have key : ∀ {v : Value} {a b : Option Addr} {c d : Nat}, v = .agg #[.bool false, .slice a (Fr.dig p).length c, .bool false, .slice b (Fr.dig q).length d] → Fr.RdF w v false p q → Fr.Rd32 w (.slice a (Fr.dig p).length c) (Fr.dig p) ∧ Fr.Rd32 w (.slice b (Fr.dig q).length d) (Fr.dig q) := by
  rintro v a b c d rfl ⟨a1, c1, b1, d1, e, h1, h2⟩
  simp only [Value.agg.injEq, Array.mk.injEq, List.cons.injEq, Value.slice.injEq, true_and, and_true] at e
  obtain ⟨⟨rfl, rfl⟩, rfl, rfl⟩ := e
  exact ⟨h1, h2⟩
 obtain ⟨u1, u2⟩ := key rfl hu
 obtain ⟨v1, v2⟩ := key rfl hv
 have HP := hid (fun W (hW : Below w.heap.size w W) => ref_SameI p a a' c c' W (u1.kept hW) (v1.kept hW))
 have HQ := hid (fun W (hW : Below w.heap.size w W) => ref_SameI q b b' d d' W (u2.kept hW) (v2.kept hW))
 clear hu hv u1 u2 v1 v2 key
 generalize (Fr.dig p).length = l at *
 generalize (Fr.dig q).length = m at *
 have hb0 : Below w.heap.size w ((w.alloc (.cells #[.bool false, .slice a l c, .bool false, .slice b m d] 45)).alloc (.cells #[.bool false, .slice a' l c', .bool false, .slice b' m d'] 45)) := ((Below.refl w.heap.size w).alloc (Nat.le_refl _) _).alloc (by rw [World.size_alloc]; omega) _
 have hX := (BoxN.new w #[.bool false, .slice a l c, .bool false, .slice b m d] 45).alloc (.cells #[.bool false, .slice a' l c', .bool false, .slice b' m d'] 45)
 have hY := BoxN.new (w.alloc (.cells #[.bool false, .slice a l c, .bool false, .slice b m d] 45)) #[.bool false, .slice a' l c', .bool false, .slice b' m d'] 45
 rw [World.size_alloc] at hY
 have x0 := hX.cell 0 rfl
 have x1 := hX.cell 1 rfl
 have y0 := hY.cell 0 rfl
 have y1 := hY.cell 1 rfl
 have HX := hid hX
 have HY := hid hY
 have HB0 := hid hb0
 clear hX hY hb0
 go_enter Tryz.func45, Tryz.ntmps45
 go_wp2_with fail
 with_reducible refine (HP.out _ HB0.out).mono ?_
 rintro e w2 ⟨rfl, hb2⟩
 have hx2 := HX.out.below hb2 HX.out.lt
 have hy2 := HY.out.below hb2 HY.out.lt
 have HB2 := hid (HB0.out.trans (hb2.mono HB0.out.size))
 clear x0 x1 y0 y1 hb2
 have x2 := hx2.cell 2 rfl
 have x3 := hx2.cell 3 rfl
 have y2 := hy2.cell 2 rfl
 have y3 := hy2.cell 3 rfl
 clear hx2 hy2
 go_wp2_with fail
 with_reducible refine (HQ.out _ HB2.out).mono ?_
 rintro e w3 ⟨rfl, hb3⟩
 have HB3 := hid (HB2.out.trans (hb3.mono HB2.out.size))
 clear hb3 x2 x3 y2 y3
 go_wp2
 go_ret
 exact ⟨rfl, HB3.out⟩
end Go.Proofs.YtikiimlmoalbcaaGreatDoor

namespace Go.Proofs.YtikiimlmoalbcaaGreatDoor
open Go.RowKit
theorem neq_ref_same (a b : Int) (w : World) : (binOp .neq 51 (.agg #[.int .i64 a, .int .i64 b]) (.agg #[.int .i64 a, .int .i64 b])).run Tryz.prog w = .ok (.bool false) w := by
 simp [go_sem]
end Go.Proofs.YtikiimlmoalbcaaGreatDoor

namespace Go.Proofs.YtikiimlmoalbcaaGreatDoor
open Go.RowKit
theorem rlt_iffB (a b : Int × Int) : rlt a b = true ↔ a.1 < b.1 ∨ (a.1 = b.1 ∧ a.2 < b.2) := by
 unfold rlt
 simp
theorem refs_ascB {ts : List Ta} (h : ts.Pairwise (fun a b => a.id < b.id)) : (refsL ts).Pairwise (fun a b => rlt (a.1, (a.2 : Int)) (b.1, (b.2 : Int)) = true) := by
 unfold refsL
 rw [List.pairwise_flatMap]
 refine ⟨fun t _ => ?_, h.imp fun {a b} hab x hx y hy => ?_⟩
 ·unfold refs1
  refine List.pairwise_map.2 (List.pairwise_lt_range.imp fun h => ?_)
  rw [rlt_iffB]
  right
  exact ⟨rfl, by simp only; omega⟩
 ·obtain ⟨i, -, rfl⟩ := List.mem_map.1 hx
  obtain ⟨j, -, rfl⟩ := List.mem_map.1 hy
  rw [rlt_iffB]
  exact .inl hab
theorem cvsL_refsB (ts : List Ta) : (cvsL ts).map (·.1) = refsL ts := by
 unfold cvsL cvsK
 rw [List.map_map]
 apply List.ext_getElem
 ·simp
 ·intro i h1 h2
  simp [cvOf, List.getD, h2]
theorem cvsL_lenB (ts : List Ta) : (cvsL ts).length = (refsL ts).length := by simp [cvsL, cvsK]
theorem refs_idB {ts : List Ta} {r : Int × Nat} (h : r ∈ refsL ts) : ∃ t ∈ ts, r.1 = t.id := by
 obtain ⟨t, ht, hr⟩ := List.mem_flatMap.1 h
 obtain ⟨k, -, rfl⟩ := List.mem_map.1 hr
 exact ⟨t, ht, rfl⟩
theorem cvsL_okB {ts : List Ta} (h : ListV ts) : CvsOk (cvsL ts) := by
 refine ⟨?_, fun c hc => ?_, fun c hc => ?_, cvs_len h, ?_⟩
 ·have h1 := refs_ascB h.2.2
  rw [← cvsL_refsB, List.pairwise_map] at h1
  exact h1
 ·have h1 : c.1 ∈ refsL ts := by rw [← cvsL_refsB]; exact List.mem_map_of_mem hc
  obtain ⟨t, ht, e⟩ := refs_idB h1
  have := h.2.1 t ht
  rw [e]
  exact ⟨this.1, this.2.1⟩
 ·obtain ⟨q, hq, rfl⟩ := List.mem_map.1 hc
  exact setOfL_asc _
 ·rw [cvsL_lenB]
  have := refs_le (ts := ts) fun t ht => (h.2.1 t ht).2.2.2.1
  have := h.1
  omega
theorem refs_leB {ts : List Ta} {c : Nat} (h : ∀ t ∈ ts, t.cols.length ≤ c) : (refsL ts).length ≤ ts.length * c := by
 induction ts with
 | nil => simp [refsL]
 | cons t ts ih =>
  have e1 : refsL (t :: ts) = refs1 t ++ refsL ts := rfl
  rw [e1, List.length_append, refs1_len, List.length_cons, Nat.succ_mul]
  have h1 := h t (by simp)
  have h2 := ih fun x hx => h x (by simp [hx])
  omega
theorem rolled_ok {ts : List Ta} (h : ListOk 4 4 7 ts) : CvsOk (cvsL ts) ∧ (setOfL (allOf (cvsL ts))).length ≤ 65536 ∧ (cvsL ts).length ≤ 16 := by
 have hv : ListV ts := listV_of h (by omega) (by omega) (by omega)
 refine ⟨cvsL_okB hv, ?_⟩
 have h1 := refs_leB (c := 4) fun t ht => (h.2.1 t ht).1.2.1
 have h2 := h.1
 have h3 := all_len (m := 4096) (cvs_len hv)
 have h4 := setOfL_len (allOf (cvsL ts))
 rw [cvsL_lenB] at h3 ⊢
 have h5 : (refsL ts).length * 4096 ≤ 16 * 4096 := Nat.mul_le_mul_right _ (by omega)
 omega
theorem hits_exist {den : Nat → Nat → Nat} {cs : List Cv} {q : List ByteArray} (hs : Sco q.length den) (hq : q.Nodup) : ∃ S, HitsOk den cs q S := by
 let T := {c : Nat // 0 < comC cs q c}
 let dn : Nat → Nat := fun c => den (comC cs q c) (sizeC cs c)
 have hd : ∀ x : T, 0 < dn x.1 := fun x => hs.pos _ _ x.2 (com_le_q x.1) (com_le_size hq x.1)
 let le : T → T → Bool := fun a b => decide (comC cs q b.1 * dn a.1 ≤ comC cs q a.1 * dn b.1 ∧ (comC cs q b.1 * dn a.1 = comC cs q a.1 * dn b.1 → a.1 ≤ b.1))
 have hle : ∀ a b : T, le a b = true ↔ (comC cs q b.1 * dn a.1 ≤ comC cs q a.1 * dn b.1 ∧ (comC cs q b.1 * dn a.1 = comC cs q a.1 * dn b.1 → a.1 ≤ b.1)) := fun a b => decide_eq_true_iff
 have htr : ∀ a b c : T, le a b = true → le b c = true → le a c = true := fun a b c h1 h2 => by
  rw [hle] at *
  have s1 : comC cs q c.1 * dn a.1 ≤ comC cs q a.1 * dn c.1 := cross_ge_ge (hd b) h1.1 h2.1
  refine ⟨s1, fun e => ?_⟩
  have s2 : comC cs q a.1 * dn b.1 ≤ comC cs q b.1 * dn a.1 := cross_ge_ge (hd c) h2.1 (Nat.le_of_eq e.symm)
  have s3 : comC cs q b.1 * dn c.1 ≤ comC cs q c.1 * dn b.1 := cross_ge_ge (hd a) (Nat.le_of_eq e.symm) h1.1
  have e1 := h1.2 (Nat.le_antisymm h1.1 s2)
  have e2 := h2.2 (Nat.le_antisymm h2.1 s3)
  omega
 have hto : ∀ a b : T, (le a b || le b a) = true := fun a b => by
  rw [Bool.or_eq_true, hle, hle]
  omega
 let F : List Nat := (List.range cs.length).filter fun c => decide (0 < comC cs q c)
 have hF : ∀ c ∈ F, 0 < comC cs q c := fun c hc => of_decide_eq_true (List.mem_filter.1 hc).2
 let L : List T := F.pmap (fun c h => ⟨c, h⟩) hF
 have hL : L.map (·.1) = F := by
  show (F.pmap (fun c h => (⟨c, h⟩ : T)) hF).map (·.1) = F
  rw [List.map_pmap]
  simp
 have hp := List.mergeSort_perm L le
 have hsrt := List.pairwise_mergeSort (le := le) htr hto L
 have hpm : ((L.mergeSort le).map (·.1)).Perm F := by rw [← hL]; exact hp.map _
 have hnd : ((L.mergeSort le).map (·.1)).Nodup := hpm.nodup_iff.2 (List.nodup_range.sublist List.filter_sublist)
 refine ⟨(L.mergeSort le).map (·.1), ?_, fun c => ?_⟩
 ·have hn' : (L.mergeSort le).Pairwise (fun a b => a.1 ≠ b.1) := by
   unfold List.Nodup at hnd
   rwa [List.pairwise_map] at hnd
  rw [List.pairwise_map]
  refine (hsrt.and hn').imp fun {a b} h => ?_
  obtain ⟨h1, h2⟩ := h
  rw [hle] at h1
  unfold befH
  rcases Nat.lt_or_ge (comC cs q b.1 * dn a.1) (comC cs q a.1 * dn b.1) with h3 | h3
  ·exact .inl h3
  ·have e := Nat.le_antisymm h1.1 h3
   have h4 := h1.2 e
   exact .inr ⟨e, by omega⟩
 ·rw [hpm.mem_iff, List.mem_filter, List.mem_range, decide_eq_true_iff]
def Q20P (w : World) (g : Nat) (e : Ending) (w' : World) : Prop :=
  ∃ (a : Option Addr) (c : Nat) (q : List ByteArray), e = .returned (.slice a q.length c) ∧ w'.ownsRow w.heap.size 9 1 (.slice a q.length c) q.length (q.map Value.string) ∧ Asc q ∧ q.length ≤ 1048576 ∧ DiceAt 89 w' g ∧ Roll w.heap.size g w w'
end Go.Proofs.YtikiimlmoalbcaaGreatDoor

namespace Go.Proofs.YtikiimlmoalbcaaGreatDoor
open Go.RowKit
def keyM (x : Mq) : Int × Int × Nat × Nat := (x.1.ta, x.1.ca, x.1.p, x.1.q)
set_option maxRecDepth 100000 in
set_option maxHeartbeats 4000000 in
theorem ref_SameHitsM {w : World} {v1 v2 : Value} {ds1 ds2 : List Mq} (h1 : MsRd w v1 ds1) (h2 : MsRd w v2 ds2) (he : ds1.map keyM = ds2.map keyM) :
  Calls Tryz.prog 14 #[v1, v2] w (Ret w (.bool true)) := by
 obtain ⟨HL, hHL⟩ : ∃ n, n = ds1.length := ⟨_, rfl⟩
 have hl1 : ds1.length = HL := hHL.symm
 have hl2 : ds2.length = HL := by
  have h := congrArg List.length he
  rw [List.length_map, List.length_map] at h
  omega
 have hl : HL ≤ 1048576 := by rw [hHL]; exact h1.many
 clear hHL
 have HH1 := hid h1
 have HH2 := hid h2
 have HE := hid he
 clear he
 obtain ⟨a1, c1, rfl, hp1, -⟩ := id h1.mem
 obtain ⟨a2, c2, rfl, hp2, -⟩ := id h2.mem
 rw [hl1] at HH1 hp1 ⊢
 rw [hl2] at HH2 hp2 ⊢
 have HL1 := hid hl1
 have HL2 := hid hl2
 clear h1 h2 hl1 hl2
 go_enter Tryz.func14, Tryz.ntmps14
 go_wp2_with fail
 go_loopg [13, 5] HL (fun K i u5 wr => ∃ p : Nat, i = .int .i64 (p : Int) ∧ p + K = HL ∧ Hid (Below w.heap.size w wr))
 case atStart => exact ⟨0, rfl, by omega, hid (Below.refl _ _)⟩
 case round =>
  obtain ⟨p, rfl, hp0, HB⟩ := hrel
  by_cases hp : 0 < gk
  ·have hpl : p < HL := by omega
   have hpi : (p : Int) < (HL : Int) := by omega
   have hr1 := HH1.out.later HB.out
   have hr2 := HH2.out.later HB.out
   have hm1 : ds1.getD p default ∈ ds1 := by rw [← List.getElem_eq_getD (h := by rw [HL1.out]; exact hpl)]; exact List.getElem_mem _
   have hm2 : ds2.getD p default ∈ ds2 := by rw [← List.getElem_eq_getD (h := by rw [HL2.out]; exact hpl)]; exact List.getElem_mem _
   have hkey : keyM (ds1.getD p default) = keyM (ds2.getD p default) := by
    have e1 : (ds1.map keyM)[p]? = (ds2.map keyM)[p]? := by rw [HE.out]
    simp only [List.getElem?_map, List.getElem?_eq_getElem (show p < ds1.length by rw [HL1.out]; exact hpl), List.getElem?_eq_getElem (show p < ds2.length by rw [HL2.out]; exact hpl), Option.map_some] at e1
    rw [← List.getElem_eq_getD (h := by rw [HL1.out]; exact hpl), ← List.getElem_eq_getD (h := by rw [HL2.out]; exact hpl)]
    exact Option.some.inj e1
   unfold keyM at hkey
   have hd1 := hr1.rd _ hm1
   have hd2 := hr2.rd _ hm2
   obtain ⟨b1, o1, cc1, e1, -, hcell1⟩ := hit_at hr1.mem (p := p) (by rw [HL1.out]; exact hpl)
   obtain ⟨b2, o2, cc2, e2, -, hcell2⟩ := hit_at hr2.mem (p := p) (by rw [HL2.out]; exact hpl)
   obtain ⟨rfl, -, rfl⟩ := Value.slice.inj e1
   obtain ⟨rfl, -, rfl⟩ := Value.slice.inj e2
   generalize (ds1.getD p default).1 = y1 at *
   generalize (ds2.getD p default).1 = y2 at *
   obtain ⟨ta, ca, ⟨na1, nc1⟩, ⟨da1, dc1⟩, P, Q⟩ := y1
   obtain ⟨ta2, ca2, ⟨na2, nc2⟩, ⟨da2, dc2⟩, P2, Q2⟩ := y2
   obtain ⟨et, hk1⟩ := Prod.mk.inj hkey
   obtain ⟨ec, hk2⟩ := Prod.mk.inj hk1
   obtain ⟨ep, eq⟩ := Prod.mk.inj hk2
   simp only at et ec ep eq
   clear hkey hk1 hk2
   subst et ec ep eq
   clear hm1 hm2 e1 e2 hr1 hr2
   have HG := hid (fun W (hW : Below wr.heap.size wr W) => (by
    have k := fun j (hj : j < 6) => (hW.cell (p := ⟨b1, o1 + p * 6 + j, none⟩) (World.block_lt_of_cell? _ _ (hcell1 j hj))).trans (hcell1 j hj)
    have k' := fun j (hj : j < 6) => (hW.cell (p := ⟨b2, o2 + p * 6 + j, none⟩) (World.block_lt_of_cell? _ _ (hcell2 j hj))).trans (hcell2 j hj)
    exact ⟨k 0 (by omega), k 1 (by omega), k 2 (by omega), k 3 (by omega), k 4 (by omega), k 5 (by omega), k' 0 (by omega), k' 1 (by omega), k' 2 (by omega), k' 3 (by omega), k' 4 (by omega), k' 5 (by omega)⟩ : W.cell? ⟨b1, o1 + p * 6, none⟩ = some (.int .i64 ta) ∧ W.cell? ⟨b1, o1 + p * 6 + 1, none⟩ = some (.int .i64 ca) ∧ W.cell? ⟨b1, o1 + p * 6 + 2, none⟩ = some (.bool false) ∧ W.cell? ⟨b1, o1 + p * 6 + 3, none⟩ = some (.slice na1 (Fr.dig P).length nc1) ∧ W.cell? ⟨b1, o1 + p * 6 + 4, none⟩ = some (.bool false) ∧ W.cell? ⟨b1, o1 + p * 6 + 5, none⟩ = some (.slice da1 (Fr.dig Q).length dc1) ∧ W.cell? ⟨b2, o2 + p * 6, none⟩ = some (.int .i64 ta) ∧ W.cell? ⟨b2, o2 + p * 6 + 1, none⟩ = some (.int .i64 ca) ∧ W.cell? ⟨b2, o2 + p * 6 + 2, none⟩ = some (.bool false) ∧ W.cell? ⟨b2, o2 + p * 6 + 3, none⟩ = some (.slice na2 (Fr.dig P).length nc2) ∧ W.cell? ⟨b2, o2 + p * 6 + 4, none⟩ = some (.bool false) ∧ W.cell? ⟨b2, o2 + p * 6 + 5, none⟩ = some (.slice da2 (Fr.dig Q).length dc2)))
   have HSF := hid (fun W (hW : Below wr.heap.size wr W) => ref_SameF P Q na1 da1 na2 da2 nc1 dc1 nc2 dc2 W (hd1.kept hW) (hd2.kept hW))
   have hne := neq_ref_same ta ca
   have HD := hid ((Below.refl wr.heap.size wr).drew)
   clear hcell1 hcell2 hd1 hd2
   go_upto_region 6 with fail
   go_region_held3 (fun W => W.cell? ⟨b1, o1 + p * 6, none⟩ = some (.int .i64 ta) ∧ W.cell? ⟨b1, o1 + p * 6 + 1, none⟩ = some (.int .i64 ca) ∧ W.cell? ⟨b1, o1 + p * 6 + 2, none⟩ = some (.bool false) ∧ W.cell? ⟨b1, o1 + p * 6 + 3, none⟩ = some (.slice na1 (Fr.dig P).length nc1) ∧ W.cell? ⟨b1, o1 + p * 6 + 4, none⟩ = some (.bool false) ∧ W.cell? ⟨b1, o1 + p * 6 + 5, none⟩ = some (.slice da1 (Fr.dig Q).length dc1) ∧ W.cell? ⟨b2, o2 + p * 6, none⟩ = some (.int .i64 ta) ∧ W.cell? ⟨b2, o2 + p * 6 + 1, none⟩ = some (.int .i64 ca) ∧ W.cell? ⟨b2, o2 + p * 6 + 2, none⟩ = some (.bool false) ∧ W.cell? ⟨b2, o2 + p * 6 + 3, none⟩ = some (.slice na2 (Fr.dig P).length nc2) ∧ W.cell? ⟨b2, o2 + p * 6 + 4, none⟩ = some (.bool false) ∧ W.cell? ⟨b2, o2 + p * 6 + 5, none⟩ = some (.slice da2 (Fr.dig Q).length dc2))
    (first | exact HG.out _ HD.out | exact HG.out _ HC.out | go_keep)
    ((go_at_call 45; go_must ((with_reducible refine (HSF.out _ HD.out).mono ?_); rintro e w5 ⟨rfl, hb5⟩; have HC := hid (HD.out.trans (hb5.mono HD.out.size)); clear hb5)))
   all_goals
    go_wp2_with fail
    go_roundg (gk - 1)
    case rel => exact ⟨p + 1, by go_num, by omega, hid (HB.out.trans (HC.out.mono HB.out.size))⟩
    case measure => omega
  ·obtain rfl : gk = 0 := by omega
   obtain rfl : p = HL := by omega
   go_wp2
   go_ret
   exact ⟨rfl, HB.out⟩
end Go.Proofs.YtikiimlmoalbcaaGreatDoor

namespace Go.Proofs.YtikiimlmoalbcaaGreatDoor
open Go.RowKit
theorem hits_key {B : Nat} {W : World} {v : Value} {cs : List Cv} {f : Nat → Nat} {H : List Nat} {ds : List Mq} (h : HtsRd B W v den1 cs f H ds) : ds.map keyM = H.map fun c => ((cs.getD c Cv.z).1.1, ((cs.getD c Cv.z).1.2 : Int), f c, 1) := by
 rw [← h.cols, List.map_map]
 refine List.map_congr_left fun x hx => ?_
 have h1 := h.of x hx
 unfold keyM
 simp only [Function.comp]
 rw [h1.ta, h1.ca, h1.p, h1.q]
 unfold den1
 rw [Nat.gcd_one_right, Nat.div_one]
end Go.Proofs.YtikiimlmoalbcaaGreatDoor
