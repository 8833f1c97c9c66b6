/- Contracts of the reference's texts of numbers of one decimal digit, and of fractions of such. Contract of the reference's Text, of fractions of one decimal digit. Scores as fractions: their comparison; the sanity check of the statements about layer 20 (Sa and Sb in this seat's words). Contracts of ref01.Same, ref01.SameFraction at equal fractions; ref19.SameHits at hits of the same columns. Contract of ref19.SameHits at hits of the same columns. Columns of rolled tables; all hits in order exist; law20's query. Contract of ref19.SameHits at hits of equal references and scores. Plain of OverlapProves: hits that a certificate proves are the first hits. Plain of OverlapOthers: a column without a value of the query changes no answer. Contracts of ref18.New, ref18.Add of a column that is not there. -/
import Derived.Test.YtikiimlmoalbcaaGreatDoorOKnbo
import Derived.Test.YtikiimlmoalbcaaGreatDoorOKnas
import Derived.Test.YtikiimlmoalbcaaGreatDoorOKnau
import Derived.Deep.RegionHeld3
import Derived.Deep.Cut
import Derived.Test.YtikiimlmoalbcaaGreatDoorOKnbi
import Derived.Test.YtikiimlmoalbcaaGreatDoorOKnai
import Derived.Test.YtikiimlmoalbcaaGreatDoorOKnbl
import Derived.Test.YtikiimlmoalbcaaGreatDoorOKnbn
import Derived.Test.YtikiimlmoalbcaaGreatDoorOKnam
set_option linter.unusedVariables false
set_option linter.unusedSimpArgs false
namespace Go.Proofs.YtikiimlmoalbcaaGreatDoor.Fr
open Go.RowKit
def dtext (n : Nat) : ByteArray := ⟨#[UInt8.ofNat (48 + n)]⟩
theorem dtext_ne : ∀ n, n < 10 → (dtext n).toList.isEmpty = false := by decide +kernel
set_option maxRecDepth 100000 in
set_option maxHeartbeats 2000000 in
theorem ref_TextBig1 (n : Nat) (a : Option Addr) (c : Nat) (w : World) (hx : Rd32 w (.slice a (dig n).length c) (dig n)) (hn : n < 10) :
  Calls Tryz.prog 96 #[.agg #[.bool false, .slice a (dig n).length c]] w (Ret w (.string (dtext n))) := by
 obtain ⟨i0, hi, hz0, hz1, hz2⟩ := info_parts info_u32
 have hl1 : (dig n).length ≤ 1 := dig_length_le (k := 1) (by omega)
 have hV := fun W (hb : Below w.heap.size w W) => ref_ValidBig (.agg #[.bool false, .slice a (dig n).length c]) false (dig n) W ⟨a, c, rfl, hx.kept hb⟩
 rw [okBig_false n (by omega)] at hV
 have HV := hid hV
 have HX := hid hx
 have HD := hid (digs_dig n)
 have HP := @dig_length_pos n
 clear hV hx
 by_cases h0 : n = 0
 ·generalize (dig n).length = L at *
  obtain rfl : L = 0 := by omega
  subst h0
  clear HP HX HD hl1
  go_enter Tryz.func96, Tryz.ntmps96
  go_wp2_with fail
  with_reducible refine (HV.out _ (by repeat' (first | (with_reducible exact Below.refl _ _) | (with_reducible assumption) | (with_reducible refine below_drewN ?_) | (with_reducible refine Below.alloc ?_ ?_ _) | (with_reducible refine Below.drew ?_) | (with_reducible refine Below.setCell ?_ ?_ _) | (with_reducible refine Below.trans ?_ (Below.mono (by with_reducible assumption) ?_)) | go_size))).mono ?_
  rintro e w1 ⟨rfl, hb1⟩
  have hz1' := hb1.size
  have k0 := cell_later hb1 (a := ⟨w.heap.size, 0, none⟩) (v := .bool false) (by go_cell)
  have k1 := cell_later hb1 (a := ⟨w.heap.size, 1, none⟩) (v := .slice a 0 c) (by go_cell)
  have hA1 : Below w.heap.size w w1 := by repeat' (first | (with_reducible exact Below.refl _ _) | (with_reducible assumption) | (with_reducible refine below_drewN ?_) | (with_reducible refine Below.alloc ?_ ?_ _) | (with_reducible refine Below.drew ?_) | (with_reducible refine Below.setCell ?_ ?_ _) | (with_reducible refine Below.trans ?_ (Below.mono (by with_reducible assumption) ?_)) | go_size)
  have hown0 : (w1.alloc (.cells #[] 132)).ownsRow w1.heap.size 132 1 (.slice (some ⟨w1.heap.size, 0, none⟩) 0 0) 0 [] := World.ownsRow_made w1 #[] 0 (Nat.le_refl _) (Nat.zero_le _) rfl
  have HOWN := hid hown0
  clear hown0
  clear hb1
  simp at hz1'
  have hlt : w.heap.size < w1.heap.size := by omega
  have hne : w.heap.size ≠ w1.heap.size := by omega
  go_wp2_with (at_builtin; refine wpList_append_any _ rfl _ _ 41 41 rfl w1.heap.size 132 132 i0 (.int .u32 0) 1 4 Tryz.underlying41 Tryz.underlying41 hi hz0 hz1 hz2 rfl (by decide) _ _ _ rfl HOWN.out a 0 c ([].map U32) rfl rfl (fun h => by omega) (u32_one _) (by unfold maxLen; omega) (by omega) (by go_size) ?_)
  intro v' w2 hown hgrow _
  obtain ⟨hr1, hr2, _, a2, c2, rfl⟩ := rd_of_owns (xs := []) hown Digs.nil
  have hA2 : Below w1.heap.size w1 w2 := ((Below.refl _ w1).alloc (Nat.le_refl _) _).grown hgrow (by simp) (fun k hk => (HOWN.out.lt k hk).1)
  have hz2' := hA2.size
  have k2 := cell_later hA2 k0
  have k3 := cell_later hA2 k1
  clear hown hgrow HOWN hr1 hr2
  go_wp2
  refine wp_loop_rounds 1 ?_
  rw [rounds_succ]
  go_wp2
  go_ret
  exact ⟨by rfl, by repeat' (first | (with_reducible exact Below.refl _ _) | (with_reducible assumption) | (with_reducible refine below_drewN ?_) | (with_reducible refine Below.alloc ?_ ?_ _) | (with_reducible refine Below.drew ?_) | (with_reducible refine Below.setCell ?_ ?_ _) | (with_reducible refine Below.trans ?_ (Below.mono (by with_reducible assumption) ?_)) | go_size)⟩
 ·have hdn := dig_one_digit (show 0 < n by omega) (show n < 4294967296 by omega)
  have hbs : bits BinOp.or IntKind.u64 0 (n : Int) = (n : Int) := by
   have := u64_or_nat 0 n (by omega) (by omega)
   rw [show ((0 : Nat) : Int) = 0 from rfl] at this
   rw [this, Nat.zero_or]
  have hq10 : (n : Int) / 10 = 0 := by omega
  have hr10 : (n : Int) % 10 = (n : Int) := by omega
  generalize (dig n).length = L at *
  obtain rfl : L = 1 := by omega
  rw [hdn] at HX HD
  clear HP hl1 hdn
  go_enter Tryz.func96, Tryz.ntmps96
  go_wp2_with fail
  with_reducible refine (HV.out _ (by repeat' (first | (with_reducible exact Below.refl _ _) | (with_reducible assumption) | (with_reducible refine below_drewN ?_) | (with_reducible refine Below.alloc ?_ ?_ _) | (with_reducible refine Below.drew ?_) | (with_reducible refine Below.setCell ?_ ?_ _) | (with_reducible refine Below.trans ?_ (Below.mono (by with_reducible assumption) ?_)) | go_size))).mono ?_
  rintro e w1 ⟨rfl, hb1⟩
  have hz1' := hb1.size
  have k0 := cell_later hb1 (a := ⟨w.heap.size, 0, none⟩) (v := .bool false) (by go_cell)
  have k1 := cell_later hb1 (a := ⟨w.heap.size, 1, none⟩) (v := .slice a 1 c) (by go_cell)
  have hA1 : Below w.heap.size w w1 := by repeat' (first | (with_reducible exact Below.refl _ _) | (with_reducible assumption) | (with_reducible refine below_drewN ?_) | (with_reducible refine Below.alloc ?_ ?_ _) | (with_reducible refine Below.drew ?_) | (with_reducible refine Below.setCell ?_ ?_ _) | (with_reducible refine Below.trans ?_ (Below.mono (by with_reducible assumption) ?_)) | go_size)
  have HS := hid ((HX.out.kept hA1).alloc (o := .cells #[] 132)).src
  have hown0 : (w1.alloc (.cells #[] 132)).ownsRow w1.heap.size 132 1 (.slice (some ⟨w1.heap.size, 0, none⟩) 0 0) 0 [] := World.ownsRow_made w1 #[] 0 (Nat.le_refl _) (Nat.zero_le _) rfl
  have HOWN := hid hown0
  clear hb1 hown0
  simp at hz1'
  have hlt : w.heap.size < w1.heap.size := by omega
  have hne : w.heap.size ≠ w1.heap.size := by omega
  go_wp2_with (at_builtin; refine wpList_append_any _ rfl _ _ 41 41 rfl w1.heap.size 132 132 i0 (.int .u32 0) 1 4 Tryz.underlying41 Tryz.underlying41 hi hz0 hz1 hz2 rfl (by decide) _ _ _ rfl HOWN.out a 1 c ([n].map U32) rfl HS.out.1 HS.out.2 (u32_one _) (by unfold maxLen; omega) (by omega) (by go_size) ?_)
  intro v' w2 hown hgrow _
  obtain ⟨g, cap, rfl, hcap, hcm, hg, hO⟩ := own32_of_owns hown HD.out (by omega)
  obtain ⟨hcz, hfz⟩ := hO.2.2.2 0 (by omega)
  have hO3 := hO.2.2.1
  simp only [List.getD_cons_zero] at hcz
  have hA2 : Below w1.heap.size w1 w2 := ((Below.refl _ w1).alloc (Nat.le_refl _) _).grown hgrow (by simp) (fun k hk => (HOWN.out.lt k hk).1)
  have hz2' := hA2.size
  have k2 := cell_later hA2 k0
  have k3 := cell_later hA2 k1
  have HO := hid hO
  clear hown hgrow HOWN HS hO
  unfold maxLen at hcm
  go_wp2
  refine wp_loop_rounds 2 ?_
  rw [rounds_succ]
  go_wp2
  refine wp_loop_rounds 2 ?_
  rw [rounds_succ]
  go_wp2
  rw [rounds_succ]
  go_wp2
  have hrd : Rd32 (w2.setCell ⟨g, 0, none⟩ (.int .u32 0)) (.slice (some ⟨g, 0, none⟩) 1 cap) [0] := (HO.out.set (show 0 < 1 by omega) (show 0 < 4294967296 by omega)).rd hcap (by unfold maxLen; omega)
  have k4 : (w2.setCell ⟨g, 0, none⟩ (.int .u32 0)).cell? ⟨w.heap.size, 0, none⟩ = some (.bool false) := by
   rw [World.cell?_setCell_other _ _ _ _ (by intro h; injection h with h; omega)]; exact k2
  have hA3 : Below w.heap.size w (w2.setCell ⟨g, 0, none⟩ (.int .u32 0)) := (hA1.trans (hA2.mono (by omega))).setCell (by simp; omega) _
  have hz3' : w2.heap.size = (w2.setCell ⟨g, 0, none⟩ (.int .u32 0)).heap.size := by simp
  have HRD := hid hrd
  rw [hr10]
  have HTR := hid (fun W (h : Rd32 W (.slice (some ⟨g, 0, none⟩) 1 cap) [0]) => ref_trim _ [0] W h)
  have HL0 : Hid ((dig (val [0])).length = 0) := by unfold Hid; rw [show val [0] = 0 from rfl, dig_zero]; rfl
  clear hrd hcz hfz k2 k3
  generalize w2.setCell ⟨g, 0, none⟩ (.int .u32 0) = W2 at *
  have hz4' : w2.heap.size ≤ W2.heap.size := by omega
  have hlt2 : w.heap.size < W2.heap.size := by omega
  clear hz3'
  have hw1 : IntKind.u8.wrap (n : Int) = (n : Int) := by rw [IntKind.wrap_u8]; omega
  have hw2 : IntKind.u8.wrap (48 + (n : Int)) = 48 + (n : Int) := by rw [IntKind.wrap_u8]; omega
  have hconv : ∀ (W : World) (b : Nat), W.cell? ⟨b, 0, none⟩ = some (.int .u8 (48 + (n : Int))) → (convert 22 9 (.slice (some ⟨b, 0, none⟩) 1 1)).run Tryz.prog W = .ok (.string (dtext n)) W := fun W b h => by
   have hcl : ∀ i, i < 1 → W.cell? ⟨b, 0 + i, none⟩ = some (.int .u8 ([48 + (n : Int)].getD i 0)) := fun i hi => by
    obtain rfl : i = 0 := by omega
    exact h
   rw [run_convert_bytes_arg W 22 5 Tryz.underlying22 Tryz.underlying5 b 0 1 1 [48 + (n : Int)] rfl hcl 9 Tryz.underlying9]
   have : (48 + (n : Int)).toNat = 48 + n := by omega
   simp [strOfNums, dtext, this]
  have hcat : dtext n ++ { data := #[] } = dtext n := by apply ByteArray.ext; simp [dtext]
  have hemp : (dtext n).toList.isEmpty = false := dtext_ne n hn
  have hsz : (dtext n).size = 1 := rfl
  have hnew : ∀ (k : Nat) (v : Value) (t : TypeId), ((W2.drewN k).alloc (.cells #[v] t)).cell? ⟨W2.heap.size, 0, none⟩ = some v := fun k v t => World.cell?_alloc_new (W2.drewN k) #[v] t 0
  go_region_with (first | (go_at_call 147; go_must ((refine (HTR.out _ (by first | exact HRD.out.drew | exact HRD.out.alloc.drew)).mono ?_; rintro e w5 ⟨a5, c5, rfl, hv5, ho5, k5, rfl⟩; clear hv5 ho5; rw [HL0.out]))))
  have hk : ∀ (k : Nat) (v : Value) (t : TypeId), ((W2.drewN k).alloc (.cells #[v] t)).cell? ⟨w.heap.size, 0, none⟩ = some (.bool false) := fun k v t => by
   rw [World.cell?_alloc_lt _ _ _ (show w.heap.size < (W2.drewN k).heap.size from hlt2)]; exact k4
  all_goals clear hconv hnew
  all_goals go_wp2
  all_goals rw [rounds_succ]
  all_goals go_wp2
  all_goals go_ret
  all_goals go_goals
  all_goals exact ⟨by rfl, by repeat' (first | (with_reducible exact Below.refl _ _) | (with_reducible assumption) | (with_reducible refine below_drewN ?_) | (with_reducible refine Below.alloc ?_ ?_ _) | (with_reducible refine Below.drew ?_) | (with_reducible refine Below.setCell ?_ ?_ _) | (with_reducible refine Below.trans ?_ (Below.mono (by with_reducible assumption) ?_)) | go_size)⟩
end Go.Proofs.YtikiimlmoalbcaaGreatDoor.Fr

namespace Go.Proofs.YtikiimlmoalbcaaGreatDoor.Fr
open Go.RowKit
def slash : ByteArray := ⟨#[47]⟩
def ftext (p q : Nat) : ByteArray := if q = 1 then dtext p else dtext p ++ slash ++ dtext q
set_option maxRecDepth 100000 in
set_option maxHeartbeats 2000000 in
theorem ref_Text1 (v : Value) (p q : Nat) (w : World) (hv : RdF w v false p q) (ok : OkF false p q) (hp : p < 10) (hq : q < 10) :
  Calls Tryz.prog 47 #[v] w (Ret w (.string (ftext p q))) := by
 have HV := hid (fun W (hb : Below w.heap.size w W) => ref_Valid v false p q W (hv.kept hb) ok.pos ok.low ok.sign ok.num ok.den)
 obtain ⟨a, c, a', c', rfl, h1, h2⟩ := hv
 have HT1 := hid (fun W (hb : Below w.heap.size w W) => ref_TextBig1 p a c W (h1.kept hb) hp)
 have HT2 := hid (fun W (hb : Below w.heap.size w W) => ref_TextBig1 q a' c' W (h2.kept hb) hq)
 have hd1 : dig 1 = [1] := dig_one_digit (by omega) (by omega)
 have HD1 := hid hd1
 have HC1 := hid (fun W v1 (hy : Rd32 W v1 (dig 1)) (hb : Below w.heap.size w W) => ref_cmp _ v1 _ _ W (h2.kept hb) hy)
 have hF1 : q = 1 → ftext p q = dtext p := fun h => by unfold ftext; rw [if_pos h]
 have hF2 : q ≠ 1 → ftext p q = dtext p ++ slash ++ dtext q := fun h => by unfold ftext; rw [if_neg h]
 have HF1 := hid hF1
 have HF2 := hid hF2
 have hs1 : (dtext p).size = 1 := rfl
 have hs2 : (dtext q).size = 1 := rfl
 clear h1 h2 hd1 hF1 hF2
 generalize ftext p q = F at *
 have hsl : (dtext p ++ slash).size = 2 := by rw [ByteArray.size_append]; rfl
 generalize dtext p = P at *
 generalize dtext q = Q at *
 generalize (dig p).length = L at *
 generalize hL' : (dig q).length = L' at *
 clear hL'
 by_cases hq1 : q = 1
 all_goals
  have HQ1 := hid hq1
  go_enter Tryz.func47, Tryz.ntmps47
  go_wp2_with fail
  with_reducible refine (HV.out _ (by repeat' (first | (with_reducible exact Below.refl _ _) | (with_reducible assumption) | (with_reducible refine below_drewN ?_) | (with_reducible refine Below.alloc ?_ ?_ _) | (with_reducible refine Below.drew ?_) | (with_reducible refine Below.setCell ?_ ?_ _) | (with_reducible refine Below.trans ?_ (Below.mono (by with_reducible assumption) ?_)) | go_size))).mono ?_
  rintro e w1 ⟨rfl, hb1⟩
  have hz1 := hb1.size
  have k0 := cell_later hb1 (a := ⟨w.heap.size, 0, none⟩) (v := .bool false) (by go_cell)
  have k1 := cell_later hb1 (a := ⟨w.heap.size, 1, none⟩) (v := .slice a L c) (by go_cell)
  have k2 := cell_later hb1 (a := ⟨w.heap.size, 2, none⟩) (v := .bool false) (by go_cell)
  have k3 := cell_later hb1 (a := ⟨w.heap.size, 3, none⟩) (v := .slice a' L' c') (by go_cell)
  have hA1 : Below w.heap.size w w1 := by repeat' (first | (with_reducible exact Below.refl _ _) | (with_reducible assumption) | (with_reducible refine below_drewN ?_) | (with_reducible refine Below.alloc ?_ ?_ _) | (with_reducible refine Below.drew ?_) | (with_reducible refine Below.setCell ?_ ?_ _) | (with_reducible refine Below.trans ?_ (Below.mono (by with_reducible assumption) ?_)) | go_size)
  clear hb1
  simp at hz1
  go_wp2_with fail
  have hn1 : Rd32 (w1.alloc (.cells #[.int .u32 1] 132)) (.slice (some ⟨w1.heap.size, 0, none⟩) 1 1) [1] := Rd32.new1 w1 1 132 w1.heap.size rfl (by omega)
  rw [← HD1.out] at hn1
  have hcc := HC1.out _ _ hn1 (hA1.alloc (by omega) _)
  rw [cmpL_dig] at hcc
  have HCC := hid hcc
  clear hcc hn1
  with_reducible refine HCC.out.mono ?_
  rintro e w2 ⟨rfl, k2', rfl⟩
  have hlt : w.heap.size < w1.heap.size := by omega
  have hne : w.heap.size ≠ w1.heap.size := by omega
  clear hq1
 ·have hsg : sgn q 1 = 0 := sgn_zero.2 HQ1.out
  generalize sgn q 1 = sg at *
  subst hsg
  have j1 : ∀ k, (((w1.alloc (.cells #[.int .u32 1] 132)).drewN k)).cell? ⟨w.heap.size, 0, none⟩ = some (.bool false) := fun k => by
   rw [World.cell?_drewN, World.cell?_alloc_lt _ _ _ hlt]; exact k0
  go_wp2_with fail
  with_reducible refine (HT1.out _ (by repeat' (first | (with_reducible exact Below.refl _ _) | (with_reducible assumption) | (with_reducible refine below_drewN ?_) | (with_reducible refine Below.alloc ?_ ?_ _) | (with_reducible refine Below.drew ?_) | (with_reducible refine Below.setCell ?_ ?_ _) | (with_reducible refine Below.trans ?_ (Below.mono (by with_reducible assumption) ?_)) | go_size))).mono ?_
  rintro e w3 ⟨rfl, hb3⟩
  go_wp2
  go_ret
  exact ⟨by rw [HF1.out HQ1.out]; rfl, by repeat' (first | (with_reducible exact Below.refl _ _) | (with_reducible assumption) | (with_reducible refine below_drewN ?_) | (with_reducible refine Below.alloc ?_ ?_ _) | (with_reducible refine Below.drew ?_) | (with_reducible refine Below.setCell ?_ ?_ _) | (with_reducible refine Below.trans ?_ (Below.mono (by with_reducible assumption) ?_)) | go_size)⟩
 ·have hsg : ¬ sgn q 1 = 0 := fun h => HQ1.out (sgn_zero.1 h)
  have hsb : (sgn q 1 == 0) = false := by simpa using hsg
  generalize sgn q 1 = sg at *
  clear hsg
  go_wp2
  have m0 : ((w1.alloc (.cells #[.int .u32 1] 132)).drewN k2').cell? ⟨w.heap.size, 0, none⟩ = some (.bool false) := by rw [World.cell?_drewN, World.cell?_alloc_lt _ _ _ hlt]; exact k0
  have m1 : ((w1.alloc (.cells #[.int .u32 1] 132)).drewN k2').cell? ⟨w.heap.size, 1, none⟩ = some (.slice a L c) := by rw [World.cell?_drewN, World.cell?_alloc_lt _ _ _ hlt]; exact k1
  have m2 : ((w1.alloc (.cells #[.int .u32 1] 132)).drewN k2').cell? ⟨w.heap.size, 2, none⟩ = some (.bool false) := by rw [World.cell?_drewN, World.cell?_alloc_lt _ _ _ hlt]; exact k2
  have m3 : ((w1.alloc (.cells #[.int .u32 1] 132)).drewN k2').cell? ⟨w.heap.size, 3, none⟩ = some (.slice a' L' c') := by rw [World.cell?_drewN, World.cell?_alloc_lt _ _ _ hlt]; exact k3
  have hA2 : Below w.heap.size w ((w1.alloc (.cells #[.int .u32 1] 132)).drewN k2') := by repeat' (first | (with_reducible exact Below.refl _ _) | (with_reducible assumption) | (with_reducible refine below_drewN ?_) | (with_reducible refine Below.alloc ?_ ?_ _) | (with_reducible refine Below.drew ?_) | (with_reducible refine Below.setCell ?_ ?_ _) | (with_reducible refine Below.trans ?_ (Below.mono (by with_reducible assumption) ?_)) | go_size)
  have hz2 : w1.heap.size + 1 = ((w1.alloc (.cells #[.int .u32 1] 132)).drewN k2').heap.size := by simp
  generalize (w1.alloc (.cells #[.int .u32 1] 132)).drewN k2' = W at *
  have hz3 : w1.heap.size + 1 ≤ W.heap.size := by omega
  clear hz2 k0 k1 k2 k3
  go_region_held3 (fun w' => w'.cell? ⟨w.heap.size, 0, none⟩ = some (.bool false) ∧ w'.cell? ⟨w.heap.size, 1, none⟩ = some (.slice a L c) ∧ w'.cell? ⟨w.heap.size, 2, none⟩ = some (.bool false) ∧ w'.cell? ⟨w.heap.size, 3, none⟩ = some (.slice a' L' c')) (first | exact ⟨m0, m1, m2, m3⟩ | exact ⟨n0, n1, n2, n3⟩ | exact ⟨o0, o1, o2, o3⟩ | go_keep)
   (first
    | (go_at_call_of 96 (c); go_must (((with_reducible refine (HT1.out _ (by repeat' (first | (with_reducible exact Below.refl _ _) | (with_reducible assumption) | (with_reducible refine below_drewN ?_) | (with_reducible refine Below.alloc ?_ ?_ _) | (with_reducible refine Below.drew ?_) | (with_reducible refine Below.setCell ?_ ?_ _) | (with_reducible refine Below.trans ?_ (Below.mono (by with_reducible assumption) ?_)) | go_size))).mono ?_); rintro e w4 ⟨rfl, hb4⟩; have hz4 := hb4.size; (try simp at hz4); have n0 := cell_later hb4 (a := ⟨w.heap.size, 0, none⟩) (v := .bool false) (by go_cell); have n1 := cell_later hb4 (a := ⟨w.heap.size, 1, none⟩) (v := .slice a L c) (by go_cell); have n2 := cell_later hb4 (a := ⟨w.heap.size, 2, none⟩) (v := .bool false) (by go_cell); have n3 := cell_later hb4 (a := ⟨w.heap.size, 3, none⟩) (v := .slice a' L' c') (by go_cell))))
    | (go_at_call_of 96 (c'); go_must (((with_reducible refine (HT2.out _ (by repeat' (first | (with_reducible exact Below.refl _ _) | (with_reducible assumption) | (with_reducible refine below_drewN ?_) | (with_reducible refine Below.alloc ?_ ?_ _) | (with_reducible refine Below.drew ?_) | (with_reducible refine Below.setCell ?_ ?_ _) | (with_reducible refine Below.trans ?_ (Below.mono (by with_reducible assumption) ?_)) | go_size))).mono ?_); rintro e w5 ⟨rfl, hb5⟩; have hz5 := hb5.size; (try simp at hz5); have o0 := cell_later hb5 (a := ⟨w.heap.size, 0, none⟩) (v := .bool false) (by go_cell); have o1 := cell_later hb5 (a := ⟨w.heap.size, 1, none⟩) (v := .slice a L c) (by go_cell); have o2 := cell_later hb5 (a := ⟨w.heap.size, 2, none⟩) (v := .bool false) (by go_cell); have o3 := cell_later hb5 (a := ⟨w.heap.size, 3, none⟩) (v := .slice a' L' c') (by go_cell)))))
  all_goals go_wp2
  all_goals go_goals
  all_goals go_ret
  all_goals exact ⟨by rw [HF2.out HQ1.out]; rfl, by repeat' (first | (with_reducible exact Below.refl _ _) | (with_reducible assumption) | (with_reducible refine below_drewN ?_) | (with_reducible refine Below.alloc ?_ ?_ _) | (with_reducible refine Below.drew ?_) | (with_reducible refine Below.setCell ?_ ?_ _) | (with_reducible refine Below.trans ?_ (Below.mono (by with_reducible assumption) ?_)) | go_size)⟩
end Go.Proofs.YtikiimlmoalbcaaGreatDoor.Fr

namespace Go.Proofs.YtikiimlmoalbcaaGreatDoor.Fr
open Go.RowKit
theorem small_pow {n : Nat} (h : n < 4294967296) : n < 4294967296 ^ 256 :=
 Nat.lt_of_lt_of_le h (by have := Nat.pow_le_pow_right (n := 4294967296) (by omega) (show 1 ≤ 256 by omega); rwa [Nat.pow_one] at this)
end Go.Proofs.YtikiimlmoalbcaaGreatDoor.Fr

namespace Go.Proofs.YtikiimlmoalbcaaGreatDoor
open Go.RowKit
end Go.Proofs.YtikiimlmoalbcaaGreatDoor

namespace Go.Proofs.YtikiimlmoalbcaaGreatDoor
open Go.RowKit
end Go.Proofs.YtikiimlmoalbcaaGreatDoor

namespace Go.Proofs.YtikiimlmoalbcaaGreatDoor
open Go.RowKit
theorem rlt_iffB (a b : Int × Int) : rlt a b = true ↔ a.1 < b.1 ∨ (a.1 = b.1 ∧ a.2 < b.2) := by
 unfold rlt
 simp
theorem refs_ascB {ts : List Ta} (h : ts.Pairwise (fun a b => a.id < b.id)) : (refsL ts).Pairwise (fun a b => rlt (a.1, (a.2 : Int)) (b.1, (b.2 : Int)) = true) := by
 unfold refsL
 rw [List.pairwise_flatMap]
 refine ⟨fun t _ => ?_, h.imp fun {a b} hab x hx y hy => ?_⟩
 ·unfold refs1
  refine List.pairwise_map.2 (List.pairwise_lt_range.imp fun h => ?_)
  rw [rlt_iffB]
  right
  exact ⟨rfl, by simp only; omega⟩
 ·obtain ⟨i, -, rfl⟩ := List.mem_map.1 hx
  obtain ⟨j, -, rfl⟩ := List.mem_map.1 hy
  rw [rlt_iffB]
  exact .inl hab
theorem cvsL_refsB (ts : List Ta) : (cvsL ts).map (·.1) = refsL ts := by
 unfold cvsL cvsK
 rw [List.map_map]
 apply List.ext_getElem
 ·simp
 ·intro i h1 h2
  simp [cvOf, List.getD, h2]
theorem cvsL_lenB (ts : List Ta) : (cvsL ts).length = (refsL ts).length := by simp [cvsL, cvsK]
theorem refs_idB {ts : List Ta} {r : Int × Nat} (h : r ∈ refsL ts) : ∃ t ∈ ts, r.1 = t.id := by
 obtain ⟨t, ht, hr⟩ := List.mem_flatMap.1 h
 obtain ⟨k, -, rfl⟩ := List.mem_map.1 hr
 exact ⟨t, ht, rfl⟩
theorem cvsL_okB {ts : List Ta} (h : ListV ts) : CvsOk (cvsL ts) := by
 refine ⟨?_, fun c hc => ?_, fun c hc => ?_, cvs_len h, ?_⟩
 ·have h1 := refs_ascB h.2.2
  rw [← cvsL_refsB, List.pairwise_map] at h1
  exact h1
 ·have h1 : c.1 ∈ refsL ts := by rw [← cvsL_refsB]; exact List.mem_map_of_mem hc
  obtain ⟨t, ht, e⟩ := refs_idB h1
  have := h.2.1 t ht
  rw [e]
  exact ⟨this.1, this.2.1⟩
 ·obtain ⟨q, hq, rfl⟩ := List.mem_map.1 hc
  exact setOfL_asc _
 ·rw [cvsL_lenB]
  have := refs_le (ts := ts) fun t ht => (h.2.1 t ht).2.2.2.1
  have := h.1
  omega
theorem refs_leB {ts : List Ta} {c : Nat} (h : ∀ t ∈ ts, t.cols.length ≤ c) : (refsL ts).length ≤ ts.length * c := by
 induction ts with
 | nil => simp [refsL]
 | cons t ts ih =>
  have e1 : refsL (t :: ts) = refs1 t ++ refsL ts := rfl
  rw [e1, List.length_append, refs1_len, List.length_cons, Nat.succ_mul]
  have h1 := h t (by simp)
  have h2 := ih fun x hx => h x (by simp [hx])
  omega
theorem rolled_ok {ts : List Ta} (h : ListOk 4 4 7 ts) : CvsOk (cvsL ts) ∧ (setOfL (allOf (cvsL ts))).length ≤ 65536 ∧ (cvsL ts).length ≤ 16 := by
 have hv : ListV ts := listV_of h (by omega) (by omega) (by omega)
 refine ⟨cvsL_okB hv, ?_⟩
 have h1 := refs_leB (c := 4) fun t ht => (h.2.1 t ht).1.2.1
 have h2 := h.1
 have h3 := all_len (m := 4096) (cvs_len hv)
 have h4 := setOfL_len (allOf (cvsL ts))
 rw [cvsL_lenB] at h3 ⊢
 have h5 : (refsL ts).length * 4096 ≤ 16 * 4096 := Nat.mul_le_mul_right _ (by omega)
 omega
def Q20P (w : World) (g : Nat) (e : Ending) (w' : World) : Prop :=
  ∃ (a : Option Addr) (c : Nat) (q : List ByteArray), e = .returned (.slice a q.length c) ∧ w'.ownsRow w.heap.size 9 1 (.slice a q.length c) q.length (q.map Value.string) ∧ Asc q ∧ q.length ≤ 1048576 ∧ DiceAt 89 w' g ∧ Roll w.heap.size g w w'
end Go.Proofs.YtikiimlmoalbcaaGreatDoor

namespace Go.Proofs.YtikiimlmoalbcaaGreatDoor
open Go.RowKit
def keyM (x : Mq) : Int × Int × Nat × Nat := (x.1.ta, x.1.ca, x.1.p, x.1.q)
end Go.Proofs.YtikiimlmoalbcaaGreatDoor

namespace Go.Proofs.YtikiimlmoalbcaaGreatDoor
open Go.RowKit
end Go.Proofs.YtikiimlmoalbcaaGreatDoor

namespace Go.Proofs.YtikiimlmoalbcaaGreatDoor
open Go.RowKit
theorem rlt_tri (a b : Int × Int) : rlt a b = true ∨ a = b ∨ rlt b a = true := by
 rw [rlt_iffB, rlt_iffB]
 obtain ⟨a1, a2⟩ := a
 obtain ⟨b1, b2⟩ := b
 simp only [Prod.mk.injEq]
 omega
theorem rlt_transB {a b c : Int × Int} (h1 : rlt a b = true) (h2 : rlt b c = true) : rlt a c = true := by
 rw [rlt_iffB] at *
 omega
def putK (cs : List Cv) (c : Cv) : Nat := (cs.takeWhile fun x => rlt (refZ x) (refZ c)).length
theorem putK_le (cs : List Cv) (c : Cv) : putK cs c ≤ cs.length := by
 unfold putK
 exact (List.takeWhile_sublist _).length_le
theorem takeWhile_at {α : Type} (p : α → Bool) : ∀ (l : List α) (d : α), (∀ i, i < (l.takeWhile p).length → p (l.getD i d) = true) ∧ ((l.takeWhile p).length < l.length → p (l.getD (l.takeWhile p).length d) = false)
 | [], d => ⟨fun i hi => absurd hi (by simp), fun h => absurd h (by simp)⟩
 | x :: l, d => by
  obtain ⟨h1, h2⟩ := takeWhile_at p l d
  rw [List.takeWhile_cons]
  by_cases hp : p x = true
  ·rw [if_pos hp]
   refine ⟨fun i hi => ?_, fun h => ?_⟩
   ·cases i with
    | zero => simpa using hp
    | succ i => simpa using h1 i (by simpa using hi)
   ·simpa using h2 (by simpa using h)
  ·rw [if_neg hp]
   refine ⟨fun i hi => absurd hi (by simp), fun _ => ?_⟩
   cases h : p x
   ·simpa using h
   ·exact absurd h hp
theorem putK_lt (cs : List Cv) (c : Cv) : ∀ i, i < putK cs c → rlt (refZ (cs.getD i Cv.z)) (refZ c) = true := (takeWhile_at (fun x : Cv => rlt (refZ x) (refZ c)) cs Cv.z).1
theorem putK_ge (cs : List Cv) (c : Cv) : putK cs c < cs.length → rlt (refZ (cs.getD (putK cs c) Cv.z)) (refZ c) = false := (takeWhile_at (fun x : Cv => rlt (refZ x) (refZ c)) cs Cv.z).2
theorem putK_up {cs : List Cv} (hk : CvsOk cs) {c : Cv} (hn : ∀ x ∈ cs, refZ x ≠ refZ c) : ∀ i, putK cs c ≤ i → i < cs.length → rlt (refZ c) (refZ (cs.getD i Cv.z)) = true := by
 intro i hi hl
 have h0 := putK_ge cs c (by omega)
 have hm := getD_mem (show putK cs c < cs.length by omega) Cv.z
 have h1 : rlt (refZ c) (refZ (cs.getD (putK cs c) Cv.z)) = true := by
  rcases rlt_tri (refZ (cs.getD (putK cs c) Cv.z)) (refZ c) with h | h | h
  ·rw [h0] at h; cases h
  ·exact absurd h (hn _ hm)
  ·exact h
 rcases Nat.lt_or_ge (putK cs c) i with h2 | h2
 ·exact rlt_transB h1 (cvs_up hk hl h2)
 ·obtain rfl : i = putK cs c := by omega
  exact h1
theorem put_ok {cs : List Cv} (hk : CvsOk cs) {c : Cv} (hn : ∀ x ∈ cs, refZ x ≠ refZ c) (h1 : 0 ≤ c.1.1 ∧ c.1.1 ≤ 1073741824) (h2 : Asc c.2) (h3 : c.2.length ≤ 4096) (h4 : cs.length + 1 ≤ 65536) : CvsOk (putL cs (putK cs c) c) := by
 have hm : ∀ x ∈ putL cs (putK cs c) c, x ∈ cs ∨ x = c := fun x hx => by
  unfold putL at hx
  rcases List.mem_append.1 hx with h | h
  ·exact .inl (List.mem_of_mem_take h)
  ·rcases List.mem_cons.1 h with h | h
   ·exact .inr h
   ·exact .inl (List.mem_of_mem_drop h)
 have hl := putK_lt cs c
 have hu := putK_up hk hn
 have hle := putK_le cs c
 generalize putK cs c = K at *
 refine ⟨?_, fun x hx => ?_, fun x hx => ?_, fun x hx => ?_, by rw [putL_len hle]; exact h4⟩
 ·unfold putL
  rw [List.pairwise_append, List.pairwise_cons]
  have hA : ∀ x ∈ cs.take K, rlt (refZ x) (refZ c) = true := fun x hx => by
   obtain ⟨i, hi, rfl⟩ := List.getElem_of_mem hx
   rw [List.length_take] at hi
   have h := hl i (by omega)
   rw [List.getElem_take, List.getElem_eq_getD Cv.z]
   exact h
  have hB : ∀ x ∈ cs.drop K, rlt (refZ c) (refZ x) = true := fun x hx => by
   obtain ⟨i, hi, rfl⟩ := List.getElem_of_mem hx
   rw [List.length_drop] at hi
   have h := hu (K + i) (by omega) (by omega)
   rw [List.getElem_drop, List.getElem_eq_getD Cv.z]
   exact h
  refine ⟨hk.up.sublist (List.take_sublist _ _), ⟨hB, hk.up.sublist (List.drop_sublist _ _)⟩, fun x hx y hy => ?_⟩
  rcases List.mem_cons.1 hy with rfl | hy
  ·exact hA x hx
  ·exact rlt_transB (hA x hx) (hB y hy)
 ·rcases hm x hx with h | rfl
  ·exact hk.ids x h
  ·exact h1
 ·rcases hm x hx with h | rfl
  ·exact hk.sets x h
  ·exact h2
 ·rcases hm x hx with h | rfl
  ·exact hk.len x h
  ·exact h3
def shP (K i : Nat) : Nat := if i < K then i else i + 1
end Go.Proofs.YtikiimlmoalbcaaGreatDoor

namespace Go.Proofs.YtikiimlmoalbcaaGreatDoor
open Go.RowKit
theorem cv_form {w : World} {base : Nat} {e : TypeId} {v : Value} {cs : List Cv} (h : CvSt w base e v cs) : v = .slice none 0 0 ∨ ∃ b c, v = .slice (some ⟨b, 0, none⟩) cs.length c := by
 obtain ⟨L, hl, h1 | ⟨g, cap, cur, h1, -⟩⟩ := h.owns
 ·exact .inl h1.1
 ·exact .inr ⟨g, cap, h1⟩
def AddP (w : World) (cs : List Cv) (e : Ending) (w' : World) : Prop :=
  ∃ ev vv lv, e = .returned (.tuple #[.agg #[ev, vv, lv], .int .i64 0]) ∧ RdIx w' (fun k => w.heap.size ≤ k ∧ k < w'.heap.size) ev vv lv (indexOf cs) ∧ Below w.heap.size w w'
set_option maxRecDepth 100000 in
set_option maxHeartbeats 4000000 in
theorem ref18_Add (cs : List Cv) (hk : CvsOk cs) (ev vv lv u : Value) (r1 : Int) (r2 : Nat) (xs : List ByteArray) (w : World) (hx : RdIx w (· < w.heap.size) ev vv lv (indexOf cs)) (hu : InS w (· < w.heap.size) u xs) (ha : Asc xs) (hl : xs.length ≤ 4096) (h1 : 0 ≤ r1 ∧ r1 ≤ 1073741824) (h2 : r2 ≤ 1073741824)
    (hn : ∀ x ∈ cs, refZ x ≠ (r1, (r2 : Int))) (hm : cs.length + 1 ≤ 65536) :
    Calls Tryz.prog 27 #[.agg #[ev, vv, lv], .agg #[.int .i64 r1, .int .i64 (r2 : Int)], u] w (AddP w (putL cs (putK cs ((r1, r2), xs)) ((r1, r2), xs))) := by
  have hok2 : CvsOk (putL cs (putK cs ((r1, r2), xs)) ((r1, r2), xs)) := put_ok hk hn h1 ha hl hm
  have HVA := hid (fun W (hW : Below w.heap.size w W) => ref18_Valid cs hk ev vv lv w.heap.size W (hx.keep fun p hp => hW.cell (p := p) hp) hW.size)
  have HIS := hid (fun W (hW : Below w.heap.size w W) => ref_IsSet u xs w.heap.size W (Rd.below (InS.rds hu fun b h => h) hW (Nat.le_refl _)))
  rw [Asc.isSet ha] at HIS
  have HCO := hid (fun W (hW : Below w.heap.size w W) => ref18_columns cs hk ev vv lv w.heap.size W (hx.keep fun p hp => hW.cell (p := p) hp) hW.size)
  have HPU := hid (fun W W2 v b e (hW : Below w.heap.size w W) (hst : CvSt W b e v cs) (hb : 0 < b) (hW2 : Below W.heap.size W W2) => (by
    have h0 := hst.later hW2 hb
    have h5 := hW.trans (hW2.mono hW.size)
    exact ref18_put cs v u ((r1, r2), xs) (putK cs ((r1, r2), xs)) W2 (h0.read.more fun k hk => hk.2) ((InK.keep hu fun p hp => h5.cell (p := p) hp).more fun k hk => Nat.lt_of_lt_of_le hk h5.size) (by omega) (cv_form h0) (putK_le _ _) (putK_lt _ _) (fun h => ⟨putK_ge _ _ h, hn _ (getD_mem h Cv.z)⟩) :
    Calls Tryz.prog 73 #[v, .agg #[.int .i64 r1, .int .i64 (r2 : Int), u]] W2 (fun e w' => ∃ v', e = .returned (.tuple #[v', .bool true]) ∧ RdCv w' (· < w'.heap.size) v' (putL cs (putK cs ((r1, r2), xs)) ((r1, r2), xs)) ∧ Below W2.heap.size W2 w')))
  have HIX := hid (fun W v (h : RdCv W (· < W.heap.size) v (putL cs (putK cs ((r1, r2), xs)) ((r1, r2), xs))) => ref_index v _ W.heap.size W h (Nat.le_refl _) hok2.many hok2.len)
  obtain ⟨ea, ec, rfl, -⟩ := id hx.ents
  obtain ⟨va, vc, rfl, -⟩ := id hx.vals
  obtain ⟨lf, ⟨la, lc, rfl, -⟩, -⟩ := id hx.lists
  obtain ⟨ua, uc, rfl, -⟩ := id hu
  generalize putL cs (putK cs ((r1, r2), xs)) ((r1, r2), xs) = cs2 at *
  generalize (indexOf cs).ents.length = n1 at *
  generalize (indexOf cs).vals.length = n2 at *
  generalize (indexOf cs).lists.length = n3 at *
  generalize xs.length = ul at *
  obtain ⟨h1a, h1b⟩ := h1
  clear hx hu ha hk hn hok2
  have hX0 := ((BoxN.new w #[.slice ea n1 ec, .slice va n2 vc, .slice la n3 lc] 30).alloc (.cells #[.int .i64 r1, .int .i64 (r2 : Int)] 51)).alloc (.cells #[.slice none 0 0, .slice none 0 0, .slice none 0 0] 30)
  have hX1 := (BoxN.new (w.alloc (.cells #[.slice ea n1 ec, .slice va n2 vc, .slice la n3 lc] 30)) #[.int .i64 r1, .int .i64 (r2 : Int)] 51).alloc (.cells #[.slice none 0 0, .slice none 0 0, .slice none 0 0] 30)
  have hX2 := BoxN.new ((w.alloc (.cells #[.slice ea n1 ec, .slice va n2 vc, .slice la n3 lc] 30)).alloc (.cells #[.int .i64 r1, .int .i64 (r2 : Int)] 51)) #[.slice none 0 0, .slice none 0 0, .slice none 0 0] 30
  rw [World.size_alloc] at hX1
  rw [World.size_alloc, World.size_alloc] at hX2
  have HB0 := hid ((((Below.refl w.heap.size w).alloc (Nat.le_refl _) (.cells #[.slice ea n1 ec, .slice va n2 vc, .slice la n3 lc] 30)).alloc (by rw [World.size_alloc]; omega) (.cells #[.int .i64 r1, .int .i64 (r2 : Int)] 51)).alloc (by rw [World.size_alloc, World.size_alloc]; omega) (.cells #[.slice none 0 0, .slice none 0 0, .slice none 0 0] 30))
  go_enter Tryz.func27, Tryz.ntmps27
  go_upto_region 1 with fail
  generalize ((w.alloc (.cells #[.slice ea n1 ec, .slice va n2 vc, .slice la n3 lc] 30)).alloc (.cells #[.int .i64 r1, .int .i64 (r2 : Int)] 51)).alloc (.cells #[.slice none 0 0, .slice none 0 0, .slice none 0 0] 30) = W0 at *
  have HX0 := hid hX0
  have HX1 := hid hX1
  have HX2 := hid hX2
  have x0 := hX0.cell 0 rfl
  have x1 := hX0.cell 1 rfl
  have x2 := hX0.cell 2 rfl
  clear hX0 hX1 hX2
  go_wp2_with fail
  with_reducible refine (HVA.out _ HB0.out).mono ?_
  rintro e w1 ⟨rfl, hb1⟩
  have HB1 := hid (HB0.out.trans (hb1.mono HB0.out.size))
  have HX0 := hid (HX0.out.below hb1 HX0.out.lt)
  have HX1 := hid (HX1.out.below hb1 HX1.out.lt)
  have HX2 := hid (HX2.out.below hb1 HX2.out.lt)
  clear hb1 x0 x1 x2
  go_wp2_with fail
  with_reducible refine (HIS.out _ HB1.out).mono ?_
  rintro e w2 hq2
  obtain ⟨rfl, hb2⟩ := hq2.ret
  have HB2 := hid (HB1.out.trans (hb2.mono HB1.out.size))
  have HX0 := hid (HX0.out.below hb2 HX0.out.lt)
  have HX1 := hid (HX1.out.below hb2 HX1.out.lt)
  have HX2 := hid (HX2.out.below hb2 HX2.out.lt)
  have y0 := HX1.out.cell 0 rfl
  have y1 := HX1.out.cell 1 rfl
  have hs1 : decide (r1 < 0) = false := decide_eq_false (by omega)
  have hs2 : decide (1073741824 < r1) = false := decide_eq_false (by omega)
  have hs3 : decide ((r2 : Int) < 0) = false := decide_eq_false (by omega)
  have hs4 : decide (4096 < ul) = false := decide_eq_false (by omega)
  clear hb2 hq2
  go_upto_region 7 with fail
  clear y0 y1
  have HG := hid (fun W (hW : Below w2.heap.size w2 W) => (by
    have h1 := HX0.out.below hW HX0.out.lt
    have h2 := HX1.out.below hW HX1.out.lt
    exact ⟨h1.cell 0 rfl, h1.cell 1 rfl, h1.cell 2 rfl, h2.cell 0 rfl, h2.cell 1 rfl⟩ : W.cell? ⟨w.heap.size, 0, none⟩ = some (.slice ea n1 ec) ∧ W.cell? ⟨w.heap.size, 1, none⟩ = some (.slice va n2 vc) ∧ W.cell? ⟨w.heap.size, 2, none⟩ = some (.slice la n3 lc) ∧ W.cell? ⟨w.heap.size + 1, 0, none⟩ = some (.int .i64 r1) ∧ W.cell? ⟨w.heap.size + 1, 1, none⟩ = some (.int .i64 (r2 : Int))))
  have HC := hid ((Below.refl w2.heap.size w2).drew)
  go_region_held3 (fun W => W.cell? ⟨w.heap.size, 0, none⟩ = some (.slice ea n1 ec) ∧ W.cell? ⟨w.heap.size, 1, none⟩ = some (.slice va n2 vc) ∧ W.cell? ⟨w.heap.size, 2, none⟩ = some (.slice la n3 lc) ∧ W.cell? ⟨w.heap.size + 1, 0, none⟩ = some (.int .i64 r1) ∧ W.cell? ⟨w.heap.size + 1, 1, none⟩ = some (.int .i64 (r2 : Int)))
    (first | exact HG.out _ HC.out | go_keep)
    (first
      | (go_at_call 74; go_must ((with_reducible refine (HCO.out _ (Fr.belowT HB2.out HC.out)).mono ?_); rintro e w5 ⟨v5, rfl, hst5, hb5⟩; have HST5 := hid hst5; have HB5 := hid (Fr.belowT (Fr.belowT HB2.out HC.out) hb5); have HC := hid (Fr.belowT HC.out hb5); clear hst5 hb5))
      | (go_at_call 73; go_must ((with_reducible refine (HPU.out _ _ v5 _ _ HB5.out HST5.out (Nat.succ_pos _) (Below.refl _ _)).mono ?_); rintro e w6 ⟨v6, rfl, hcv6, hb6⟩; have HCV6 := hid hcv6; have HC := hid (Fr.belowT HC.out hb6); clear hcv6 hb6)))
  all_goals
    have HB6 := hid (Fr.belowT HB2.out HC.out)
    have HX6 := hid (HX2.out.below HC.out HX2.out.lt)
    go_wp2_with fail
    with_reducible refine (HIX.out _ v6 HCV6.out).mono ?_
    rintro e w7 ⟨ev7, vv7, lv7, rfl, hrx7, hb7⟩
    obtain ⟨ea7, ec7, rfl, -⟩ := id hrx7.ents
    obtain ⟨va7, vc7, rfl, -⟩ := id hrx7.vals
    obtain ⟨lf7, ⟨la7, lc7, rfl, -⟩, -⟩ := id hrx7.lists
    generalize (indexOf cs2).ents.length = m1 at *
    generalize (indexOf cs2).vals.length = m2 at *
    generalize (indexOf cs2).lists.length = m3 at *
    have hX7 := HX6.out.below hb7 HX6.out.lt
    have HX7 := hid hX7
    have HB7 := hid (Fr.belowT HB6.out hb7)
    have hz6 := HX6.out.lt
    have hz26 := HB6.out.size
    have HZ : Hid (BoxN (((w7.setCell ⟨w.heap.size + 2, 0, none⟩ (.slice ea7 m1 ec7)).setCell ⟨w.heap.size + 2, 1, none⟩ (.slice va7 m2 vc7)).setCell ⟨w.heap.size + 2, 2, none⟩ (.slice la7 m3 lc7)) (w.heap.size + 2) 30 #[(.slice ea7 m1 ec7), (.slice va7 m2 vc7), (.slice la7 m3 lc7)]) := hid (((hX7.set 0 (.slice ea7 m1 ec7)).set 1 (.slice va7 m2 vc7)).set 2 (.slice la7 m3 lc7))
    have HRES : Hid (AddP w cs2 (.returned (.tuple #[.agg #[(.slice ea7 m1 ec7), (.slice va7 m2 vc7), (.slice la7 m3 lc7)], .int .i64 0])) (((w7.setCell ⟨w.heap.size + 2, 0, none⟩ (.slice ea7 m1 ec7)).setCell ⟨w.heap.size + 2, 1, none⟩ (.slice va7 m2 vc7)).setCell ⟨w.heap.size + 2, 2, none⟩ (.slice la7 m3 lc7))) := hid
      ⟨(.slice ea7 m1 ec7), (.slice va7 m2 vc7), (.slice la7 m3 lc7), rfl, (hrx7.keep fun p hp => World.cell?_of_block (by
        have h5 : w6.heap.size ≤ p.block := hp.1
        exact (Below.heap_setCell _ _ _ _ (by show p.block ≠ w.heap.size + 2; omega)).trans ((Below.heap_setCell _ _ _ _ (by show p.block ≠ w.heap.size + 2; omega)).trans (Below.heap_setCell _ _ _ _ (by show p.block ≠ w.heap.size + 2; omega))))).more fun k hk => (by
        have h5 : w6.heap.size ≤ k ∧ k < w7.heap.size := hk
        exact ⟨by omega, by simpa using h5.2⟩),
       ((HB7.out.setCell (p := ⟨w.heap.size + 2, 0, none⟩) (by show w.heap.size ≤ w.heap.size + 2; omega) _).setCell (p := ⟨w.heap.size + 2, 1, none⟩) (by show w.heap.size ≤ w.heap.size + 2; omega) _).setCell (p := ⟨w.heap.size + 2, 2, none⟩) (by show w.heap.size ≤ w.heap.size + 2; omega) _⟩
    have z0 := hX7.cell 0 rfl
    have z1 := hX7.cell 1 rfl
    have z2 := hX7.cell 2 rfl
    have f0 := hX7.frozen 0
    have f1 := hX7.frozen 1
    have f2 := hX7.frozen 2
    clear hX7 hrx7 hb7
    go_wp2
    have y0 := HZ.out.cell 0 rfl
    have y1 := HZ.out.cell 1 rfl
    have y2 := HZ.out.cell 2 rfl
    refine bodyPost_ret (v := .tuple #[.agg #[(.slice ea7 m1 ec7), (.slice va7 m2 vc7), (.slice la7 m3 lc7)], .int .i64 0]) (by simp [results, Tryz.results27, go_sem, y0, y1, y2]) rfl HRES.out
theorem ref18_New (w : World) : Calls Tryz.prog 64 #[] w (Ret w (.agg #[.slice none 0 0, .slice none 0 0, .slice none 0 0])) := by
 have HX := hid (BoxN.new w #[.slice none 0 0, .slice none 0 0, .slice none 0 0] 30)
 have HB := hid ((Below.refl w.heap.size w).alloc (Nat.le_refl _) (.cells #[.slice none 0 0, .slice none 0 0, .slice none 0 0] 30))
 go_enter Tryz.func64, Tryz.ntmps64
 go_wp2
 have y0 := HX.out.cell 0 rfl
 have y1 := HX.out.cell 1 rfl
 have y2 := HX.out.cell 2 rfl
 refine bodyPost_ret (v := .agg #[.slice none 0 0, .slice none 0 0, .slice none 0 0]) (by simp [results, Tryz.results64, go_sem, y0, y1, y2]) rfl ⟨rfl, HB.out⟩
end Go.Proofs.YtikiimlmoalbcaaGreatDoor
