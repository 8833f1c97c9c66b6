/- The walk of LineageRight. Contracts of sets of texts: text.IsSet, the reference's Set. Contract of the reference's Set. Contract of the reference's Values of a column (from Nf). Contract of ref38.filters. -/
import Derived.Deep.Cut
import Derived.Test.YtaajpliifdlokaaGreatDoorLnNrbi
import Derived.Test.YtaajpliifdlokaaGreatDoorLnNrbq
import Derived.Test.YtaajpliifdlokaaGreatDoorRows
import Derived.Test.YtaajpliifdlokaaGreatDoorLnNraa
import Derived.Test.YtaajpliifdlokaaGreatDoorLnNrab
import Derived.Test.YtaajpliifdlokaaGreatDoorLnNray
set_option linter.unusedVariables false
set_option linter.unusedSimpArgs false
namespace Go.Proofs.YtaajpliifdlokaaGreatDoor
open Go.RowKit
theorem find_memR {v : Value} {ts : List Ta} {B : Nat} {w : World} (h : ListV ts) (hv : RdTa w (· < B) v ts) (hB : B ≤ w.heap.size) {t : Ta} (ht : t ∈ ts) : Calls Tryz.prog 32 #[v, .int .i64 t.id] w (FindP w B t) := by
  obtain ⟨i, hi, rfl⟩ := List.getElem_of_mem ht
  have e : ts[i] = ts.getD i Ta.z := by simp [List.getD, hi]
  rw [e]
  have hl := h.1
  exact ref_Find v ts B i w hi (fun j hj => by have := ids_up h.2.2 hj hi; omega) (by omega) hv hB
theorem ta_at {w : World} {S : Nat → Prop} {v : Value} {ts : List Ta} (h : RdTa w S v ts) {q : Nat} (hq : q < ts.length) : ∃ b o c x y, v = .slice (some ⟨b, o, none⟩) ts.length c ∧ S b ∧ RdCo w S (.slice x (ts.getD q Ta.z).cols.length y) (ts.getD q Ta.z).cols ∧
    w.cell? ⟨b, o + q * 3, none⟩ = some (.int .i64 (ts.getD q Ta.z).id) ∧ w.cell? ⟨b, o + q * 3 + 1, none⟩ = some (.string (ts.getD q Ta.z).name) ∧ w.cell? ⟨b, o + q * 3 + 2, none⟩ = some (.slice x (ts.getD q Ta.z).cols.length y) := by
  obtain ⟨tv, ⟨a, c, rfl, -, -, hr⟩, hk⟩ := h
  obtain ⟨b, o, rfl, hb, hc⟩ := hr (by omega)
  have hkq := hk q hq
  obtain ⟨cv, ⟨x, y, e, -⟩, -⟩ := hkq
  have hkq := hk q hq
  have h2 := hc q hq 2 (by omega)
  simp only [taF, three] at h2
  rw [e] at hkq h2
  exact ⟨b, o, c, x, y, rfl, hb, hkq, hc q hq 0 (by omega), hc q hq 1 (by omega), h2⟩
theorem cnt_mul {t : Ta} (h : Cnt t.cols) : wrap64 ((t.cols.length : Int) * (rowsC t.cols : Int)) = (cellsT t : Int) := by
  have h1 := h.cells
  unfold cellsT at h1 ⊢
  have e : ((rowsC t.cols * t.cols.length : Nat) : Int) = (t.cols.length : Int) * (rowsC t.cols : Int) := by
    rw [Nat.mul_comm]
    simp
  rw [← e]
  unfold wrap64
  omega
end Go.Proofs.YtaajpliifdlokaaGreatDoor

namespace Go.Proofs.YtaajpliifdlokaaGreatDoor
open Go.RowKit
end Go.Proofs.YtaajpliifdlokaaGreatDoor

namespace Go.Proofs.YtaajpliifdlokaaGreatDoor
open Go.RowKit
def SetSt (w wr : World) (xs : List ByteArray) (k : Nat) (v : Value) (acc : List ByteArray) : Prop :=
  acc = (xs.take k).foldl put1 [] ∧ wr.ownsRow w.heap.size 9 1 v acc.length (acc.map Value.string) ∧ (acc.length = 0 → v = .slice none 0 0) ∧ Below w.heap.size w wr
theorem take_foldl {xs : List ByteArray} {k : Nat} (h : k < xs.length) : (xs.take (k + 1)).foldl put1 [] = put1 ((xs.take k).foldl put1 []) (xs.getD k ⟨#[]⟩) := by
  rw [List.take_succ_eq_append_getElem h, List.foldl_append]
  simp [List.getD, h]
theorem take_foldl_len (xs : List ByteArray) (k : Nat) : ((xs.take k).foldl put1 []).length ≤ k := by
  have := (foldl_put1 (xs.take k) [] List.Pairwise.nil).2.1
  have h2 : (xs.take k).length ≤ k := List.length_take_le _ _
  simp at this h2
  omega
set_option maxRecDepth 100000 in
set_option maxHeartbeats 2000000 in
theorem ref_Set (v0 : Value) (xs : List ByteArray) (B : Nat) (w : World) (hv : RdS w B v0 xs) (hB : B ≤ w.heap.size) (hlen : xs.length ≤ 1099511627776) :
  Calls Tryz.prog 182 #[v0] w (GivesS w (setOfL xs)) := by
 obtain ⟨a, c, rfl, hc, hm, hx⟩ := hv
 obtain ⟨i0, hi, hz0, hz1, hz2⟩ := info_parts info_str
 have HTF := hid (fun k h => @take_foldl xs k h)
 have HTL := hid (fun k => take_foldl_len xs k)
 have HFIN : Hid (setOfL xs = (xs.take xs.length).foldl put1 []) := hid (by rw [List.take_length]; rfl)
 generalize setOfL xs = F at *
 generalize hn : xs.length = n at *
 have HX := hid hx
 clear hn hx
 unfold maxLen at hm
 go_enter Tryz.func182, Tryz.ntmps182
 go_wp2
 go_loopg [9, 3] n (fun N i v wr => ∃ (k : Nat) (acc : List ByteArray), n - k = N ∧ k ≤ n ∧ i = .int .i64 k ∧ acc.length ≤ k ∧ Hid (SetSt w wr xs k v acc))
 case atStart => exact ⟨0, [], by omega, by omega, rfl, by simp, hid ⟨by simp, World.ownsRow_nil _ _ _ _, fun _ => rfl, Below.refl _ _⟩⟩
 case round =>
  obtain ⟨k, acc, rfl, hk, rfl, hal, hst⟩ := hrel
  obtain ⟨hacc, hown, hnil, hbl⟩ := hst.out
  obtain ⟨a3, c3, rfl⟩ := own_slice hown
  have HACC := hid hacc
  have HOWN := hid hown
  have HNIL := hid hnil
  have HBL := hid hbl
  have hbs := hbl.size
  clear hacc hown hnil hbl hst
  by_cases hlt : k < n
  ·obtain ⟨b, o, rfl, hb, hcell⟩ := HX.out (by omega)
   have h1 : wr.cell? ⟨b, o + k, none⟩ = some (.string (xs.getD k ⟨#[]⟩)) := (HBL.out.cell (p := ⟨b, o + k, none⟩) (by show b < w.heap.size; omega)).trans (hcell k hlt)
   have HNEXT := hid (HTF.out k hlt)
   clear hcell
   generalize hs : xs.getD k ⟨#[]⟩ = s at *
   have HS := hid hs
   have hq := before_le s acc
   have HQ1 := hid (fun i hi => before_lt s acc i hi)
   have HQ2 := hid (before_at s acc)
   have HPUT : Hid (put1 acc s = if before s acc = acc.length ∨ acc.getD (before s acc) ⟨#[]⟩ ≠ s then acc.take (before s acc) ++ s :: acc.drop (before s acc) else acc) := hid rfl
   generalize before s acc = kb at *
   generalize hm2 : acc.length = m at *
   have HM := hid hm2
   clear hs hm2
   go_wp2
   go_loop [6] (fun i => ∃ q : Nat, q ≤ kb ∧ i = .int .i64 q) (fun i => kb - (intOf i).toNat)
   case atStart => exact ⟨0, by omega, rfl⟩
   case round =>
    clear h1
    obtain ⟨q, hqk, rfl⟩ := hrel
    by_cases hqlt : q < kb
    ·obtain ⟨g, cap, e3, hg, hgz⟩ := HOWN.out.form (by omega)
     obtain ⟨rfl, _, rfl⟩ := Value.slice.inj e3
     clear e3
     have h2 : wr.cell? ⟨g, q, none⟩ = some (.string (acc.getD q ⟨#[]⟩)) := (HOWN.out.cellAt q (by omega)).trans (smap_get (by have := HM.out; omega))
     have h3 : Op.bytesLess (acc.getD q ⟨#[]⟩).toList s.toList = true := HQ1.out q hqlt
     generalize acc.getD q ⟨#[]⟩ = aq at *
     go_wp2
     go_round
     case rel => exact ⟨q + 1, by omega, by go_num⟩
     case measure => simp [intOf]; omega
    ·obtain rfl : q = kb := by omega
     clear hqlt
     rcases Nat.eq_zero_or_pos m with rfl | hmp
     ·obtain rfl : q = 0 := by omega
      obtain ⟨rfl, _, rfl⟩ := Value.slice.inj (HNIL.out rfl)
      go_wp2
      go_region_law ((refine step_append_form _ rfl (.tmp 41) (.tmp 47) 107 107 rfl w.heap.size 9 9 i0 (.string ⟨#[]⟩) 1 16 Tryz.underlying107 Tryz.underlying107 hi hz0 hz1 hz2 rfl (by decide) (.slice none 0 0) 0 [] (by simp [Act.eval, Act.put]) (World.ownsRow_nil _ _ _ _) (some ⟨wr.heap.size, 0, none⟩) 1 1 [.string s] (by simp [Act.eval, Act.put]) rfl (fun _ => ⟨_, rfl, cell_one_new wr (.string s) 9⟩) (smap_one [s]) (by omega) (by unfold maxLen; omega) (by omega) (by simp; omega) ?_); intro g2 cap2 w2 hown2 hg2 hat2 hlt2)
      have hb2 : Below w.heap.size w w2 := (HBL.out.alloc (by omega) (.cells #[.string s] 9)).drew.grown hg2 (by simp; omega) (fun k hk => by cases hk)
      have HB2 := hid hb2
      have HO2 := hid hown2
      clear hb2 hown2 hg2 hat2 hlt2
      go_wp2
      go_roundg (n - (k + 1))
      case rel => exact ⟨k + 1, [s], by omega, by omega, by go_num, by simp, hid ⟨by rw [HNEXT.out, ← HACC.out, List.eq_nil_of_length_eq_zero HM.out]; rfl, HO2.out, fun h => by simp at h, HB2.out⟩⟩
      case measure => omega
     ·obtain ⟨g, cap, e3, hg, hgz⟩ := HOWN.out.form hmp
      obtain ⟨rfl, _, rfl⟩ := Value.slice.inj e3
      clear e3
      obtain ⟨hcap, hcm, _, _⟩ := own_caps HOWN.out
      unfold maxLen at hcm
      have hqc : q ≤ c3 := by omega
      by_cases hqm : q = m
      ·subst hqm
       obtain ⟨oo, hA⟩ : ∃ oo, (if c3 = q then some ⟨g, 0, none⟩ else some ⟨g, q, none⟩ : Option Addr) = some ⟨g, oo, none⟩ := by
        split
        ·exact ⟨0, rfl⟩
        ·exact ⟨q, rfl⟩
       have HP4 : Hid (0 < q + 1) := hid (by omega)
       have HP5 : Hid (q + 1 ≤ maxLen) := hid (by unfold maxLen; omega)
       have HP6 : Hid ((q + 1) * 16 ≤ 140737488355328) := hid (by omega)
       have HO1 := hid ((HOWN.out.alloc (.cells #[.string s] 9)).drew)
       have HLE : Hid (w.heap.size ≤ (wr.alloc (.cells #[.string s] 9)).heap.size) := hid (by rw [World.size_alloc]; omega)
       go_wp2
       go_region_law ((refine step_append_form _ rfl (.tmp 41) (.tmp 47) 107 107 rfl w.heap.size 9 9 i0 (.string ⟨#[]⟩) 1 16 Tryz.underlying107 Tryz.underlying107 hi hz0 hz1 hz2 rfl Nat.one_pos (.slice (some ⟨g, 0, none⟩) q c3) q (acc.map Value.string) rfl HO1.out (some ⟨wr.heap.size, 0, none⟩) 1 1 [.string s] rfl rfl (fun _ => ⟨_, rfl, cell_one_new wr (.string s) 9⟩) (smap_one [s]) HP4.out HP5.out HP6.out HLE.out ?_); intro g2 cap2 w2 hown2 hg2 hat2 hlt2)
       have hb2 : Below w.heap.size w w2 := (HBL.out.alloc (by omega) (.cells #[.string s] 9)).drew.grown hg2 (by simp; omega) (fun k hk => by
         have : g = k := by simpa [Value.ownBlock] using hk
         omega)
       have HB2 := hid hb2
       have HO2 := hid hown2
       have HL2 : Hid ((acc ++ [s]).length = q + 1) := hid (by have := HM.out; simp; omega)
       clear hb2 hown2 hg2 hat2 hlt2
       go_wp2
       go_roundg (n - (k + 1))
       case rel => exact ⟨k + 1, acc ++ [s], by omega, by omega, by go_num, by rw [HL2.out]; omega, hid ⟨by rw [HNEXT.out, ← HACC.out, HPUT.out, if_pos (.inl trivial), ← HM.out, List.take_length, List.drop_length], by rw [HL2.out]; simpa using HO2.out, fun h => by rw [HL2.out] at h; omega, HB2.out⟩⟩
       case measure => omega
      ·have hqm2 : q < m := by omega
       have hqm3 : ((q : Int) == (m : Int)) = false := by simp; omega
       have h2 : wr.cell? ⟨g, q, none⟩ = some (.string (acc.getD q ⟨#[]⟩)) := (HOWN.out.cellAt q (by omega)).trans (smap_get (by have := HM.out; omega))
       have h3 : Op.bytesLess (acc.getD q ⟨#[]⟩).toList s.toList = false := HQ2.out hqm2
       generalize hAQ : acc.getD q ⟨#[]⟩ = aq at *
       by_cases heq : aq = s
       ·have h4 : (aq.toList == s.toList) = true := by subst heq; simp
        have HEQ := hid heq
        clear heq
        go_wp2
        go_roundg (n - (k + 1))
        case rel => exact ⟨k + 1, acc, by omega, by omega, by go_num, by have := HM.out; omega, hid ⟨by rw [HNEXT.out, ← HACC.out, HPUT.out, if_neg (fun h => h.elim (fun h => by omega) (fun h => h HEQ.out))], by have := HOWN.out; rw [HM.out]; exact this, by rw [HM.out]; exact HNIL.out, HBL.out⟩⟩
        case measure => omega
       ·have h4 : (aq.toList == s.toList) = false := by
         cases h5 : (aq.toList == s.toList) with
         | false => rfl
         | true => exact absurd (bytes_ext (eq_of_beq h5)) heq
        have HEQ := hid heq
        clear heq
        have HDL : Hid (((acc.map Value.string).drop q).length = (m - q) * 1) := hid (by have := HM.out; simp; omega)
        have HDL2 : Hid (([Value.string s] ++ (acc.map Value.string).drop q).length = (1 + (m - q)) * 1) := hid (by have := HM.out; simp; omega)
        have HDC := hid (own_drop (k := q) ((HOWN.out).alloc (.cells #[.string s] 9)))
        have HD1 : Hid (∀ u ∈ (acc.map Value.string).drop q, u.oneCell' = true) := hid (fun u hu => smap_one acc u (List.mem_of_mem_drop hu))
        have HD3 : Hid (∀ u ∈ [Value.string s] ++ (acc.map Value.string).drop q, u.oneCell' = true) := hid (fun u hu => by
         rcases List.mem_append.1 hu with h | h
         ·exact smap_one [s] u h
         ·exact HD1.out u h)
        have hcq : ¬ c3 = q := by omega
        have HOL : Hid ((wr.alloc (.cells #[.string s] 9)).ownsRow wr.heap.size 9 1 (.slice (some ⟨wr.heap.size, 0, none⟩) 1 1) 1 [.string s]) := hid (World.ownsRow_lit wr #[.string s] 1 (Nat.le_refl _) (by simp [maxLen]) rfl)
        have HLE : Hid (wr.heap.size ≤ (wr.alloc (.cells #[.string s] 9)).heap.size) := hid (by rw [World.size_alloc]; omega)
        have HP1 : Hid (0 < 1 + (m - q)) := hid (by omega)
        have HP2 : Hid (1 + (m - q) ≤ maxLen) := hid (by unfold maxLen; omega)
        have HP3 : Hid ((1 + (m - q)) * 16 ≤ 140737488355328) := hid (by omega)
        have HP4 : Hid (0 < q + (1 + (m - q))) := hid (by omega)
        have HP5 : Hid (q + (1 + (m - q)) ≤ maxLen) := hid (by unfold maxLen; omega)
        have HP6 : Hid ((q + (1 + (m - q))) * 16 ≤ 140737488355328) := hid (by omega)
        have HQM : Hid (q ≤ m) := hid (by omega)
        have HNE : Hid ((Value.slice (some ⟨g, 0, none⟩) m c3).ownBlock ≠ (Value.slice (some ⟨wr.heap.size, 0, none⟩) 1 1).ownBlock) := hid (fun e => by
         have : g = wr.heap.size := by simpa [Value.ownBlock] using e
         omega)
        go_wp2
        go_region_law (first | ((refine step_append_form _ rfl (.tmp 43) (.tmp 46) 107 107 rfl wr.heap.size 9 9 i0 (.string ⟨#[]⟩) 1 16 Tryz.underlying107 Tryz.underlying107 hi hz0 hz1 hz2 rfl Nat.one_pos (.slice (some ⟨wr.heap.size, 0, none⟩) 1 1) 1 [.string s] rfl HOL.out (some ⟨g, q, none⟩) (m - q) (c3 - q) ((acc.map Value.string).drop q) rfl HDL.out (fun _ => ⟨_, rfl, HDC.out⟩) HD1.out HP1.out HP2.out HP3.out HLE.out ?_); intro g1 cap1 w1 hown1 hg1 hat1 hlt1; have HD2 := hid (hown1.cells (g := g1) rfl); have HT2 := hid (own_take ((HOWN.out.alloc (.cells #[.string s] 9)).drew.kept hg1 (.inr HNE.out)) HQM.out)) | ((refine step_append_form _ rfl (.tmp 41) (.tmp 47) 107 107 rfl w.heap.size 9 9 i0 (.string ⟨#[]⟩) 1 16 Tryz.underlying107 Tryz.underlying107 hi hz0 hz1 hz2 rfl Nat.one_pos (.slice (some ⟨g, 0, none⟩) q c3) q ((acc.map Value.string).take q) rfl HT2.out (some ⟨g1, 0, none⟩) (1 + (m - q)) cap1 ([.string s] ++ (acc.map Value.string).drop q) rfl HDL2.out (fun _ => ⟨_, rfl, HD2.out⟩) HD3.out HP4.out HP5.out HP6.out (by have := hg1.size; simp at this; omega) ?_); intro g2 cap2 w2 hown2 hg2 hat2 hlt2))
        have hb1 : Below w.heap.size w w1 := (HBL.out.alloc (by omega) (.cells #[.string s] 9)).drew.grown hg1 (by simp; omega) (fun k hk => by
         have : wr.heap.size = k := by simpa [Value.ownBlock] using hk
         omega)
        have hz1' := hg1.size
        simp at hz1'
        have HB2 := hid (hb1.grown hg2 (by omega) (fun k hk => by
         have : g = k := by simpa [Value.ownBlock] using hk
         omega))
        have HO2 := hid hown2
        have HL2 : Hid ((acc.take q ++ s :: acc.drop q).length = q + (1 + (m - q))) := hid (by have := HM.out; simp; omega)
        clear hb1 hown1 hg1 hat1 hlt1 hown2 hg2 hat2 hlt2 hz1'
        go_wp2
        go_roundg (n - (k + 1))
        case rel => exact ⟨k + 1, acc.take q ++ s :: acc.drop q, by omega, by omega, by go_num, by rw [HL2.out]; omega, hid ⟨by rw [HNEXT.out, ← HACC.out, HPUT.out, if_pos (.inr HEQ.out)], by rw [HL2.out]; simpa using HO2.out, fun h => by rw [HL2.out] at h; omega, HB2.out⟩⟩
        case measure => omega
  ·obtain rfl : k = n := by omega
   have hfin : F = acc := HFIN.out.trans HACC.out.symm
   subst hfin
   have HFI : Hid (GivesS w F (.returned (.slice a3 F.length c3)) wr) := hid ⟨a3, c3, rfl, HOWN.out, HBL.out⟩
   generalize F.length = L at *
   go_wp2
   go_ret
   exact HFI.out
end Go.Proofs.YtaajpliifdlokaaGreatDoor

namespace Go.Proofs.YtaajpliifdlokaaGreatDoor
open Go.RowKit
def textsL (cs : List Cl) : List ByteArray := (cs.filter fun c => !c.null).map Cl.text
def valuesL (cs : List Cl) : List ByteArray := setOfL (textsL cs)
theorem texts_take {cs : List Cl} {k : Nat} (h : k < cs.length) : textsL (cs.take (k + 1)) = if (cs.getD k Cl.z).null = true then textsL (cs.take k) else textsL (cs.take k) ++ [(cs.getD k Cl.z).text] := by
  unfold textsL
  rw [List.take_succ_eq_append_getElem h, List.filter_append, List.map_append]
  have e : cs.getD k Cl.z = cs[k] := by simp [List.getD, h]
  rw [e, List.filter_cons, List.filter_nil]
  cases h2 : cs[k].null <;> simp [h2]
theorem texts_len (cs : List Cl) : (textsL cs).length ≤ cs.length := by
  unfold textsL; rw [List.length_map]; exact List.length_filter_le _ _
theorem texts_take_len (cs : List Cl) (k : Nat) : (textsL (cs.take k)).length ≤ k := Nat.le_trans (texts_len _) (List.length_take_le _ _)
set_option maxRecDepth 100000 in
set_option maxHeartbeats 1000000 in
theorem ref_Values (nm : ByteArray) (cs : List Cl) (v : Value) (B : Nat) (w : World) (hv : RdCl w (· < B) v cs) (hB : B ≤ w.heap.size) (hl : cs.length ≤ 1048576) :
  Calls Tryz.prog 109 #[.agg #[.string nm, v]] w (GivesS w (valuesL cs)) := by
 obtain ⟨a, k, rfl, hk, hm, hrd⟩ := hv
 obtain ⟨i0, hi, hz0, hz1, hz2⟩ := info_parts info_str
 have HRD := hid hrd
 have HTK := hid (fun q h => @texts_take cs q h)
 have HTL := hid (fun q => texts_take_len cs q)
 have HFIN : Hid (valuesL cs = setOfL (textsL (cs.take cs.length))) := hid (by rw [List.take_length]; rfl)
 clear hrd
 generalize valuesL cs = F at *
 generalize hcl : cs.length = L at *
 have HCL := hid hcl
 clear hcl
 unfold maxLen at hm
 go_enter Tryz.func109, Tryz.ntmps109
 go_wp2_with fail
 go_loopg [3, 9] L (fun N v i wr => ∃ q : Nat, q + N = L ∧ i = .int .i64 (q : Int) ∧ Hid (Below w.heap.size w wr ∧ wr.ownsRow w.heap.size 9 1 v (textsL (cs.take q)).length ((textsL (cs.take q)).map Value.string)))
 case atStart => exact ⟨0, by omega, rfl, hid ⟨by have := Below.refl w.heap.size w; repeat' (first | (with_reducible exact Below.refl _ _) | (with_reducible assumption) | (with_reducible refine below_drewN ?_) | (with_reducible refine Below.alloc ?_ ?_ _) | (with_reducible refine Below.drew ?_) | (with_reducible refine Below.setCell ?_ ?_ _) | (with_reducible refine Below.trans ?_ (Below.mono (by with_reducible assumption) ?_)) | go_size), World.ownsRow_nil _ _ _ _⟩⟩
 case round =>
  obtain ⟨q, hq, rfl, HST⟩ := hrel
  obtain ⟨a3, c3, rfl⟩ := own_slice HST.out.2
  by_cases hp : 0 < gk
  ·obtain ⟨b, o, rfl, hb, hcell⟩ := HRD.out (by omega)
   have hb' : b < B := hb
   have hbw : b < w.heap.size := by omega
   have hwz := HST.out.1.size
   have k0 : wr.cell? ⟨b, o + q * 2, none⟩ = some (.bool (cs.getD q Cl.z).null) := (HST.out.1.cell (p := ⟨b, o + q * 2, none⟩) hbw).trans (hcell q (by omega) 0 (by omega))
   have k1 : wr.cell? ⟨b, o + q * 2 + 1, none⟩ = some (.string (cs.getD q Cl.z).text) := (HST.out.1.cell (p := ⟨b, o + q * 2 + 1, none⟩) hbw).trans (hcell q (by omega) 1 (by omega))
   have HNX := hid (HTK.out q (by have := HCL.out; omega))
   have hql := HTL.out q
   generalize textsL (cs.take q) = acc at *
   clear hcell
   generalize cs.getD q Cl.z = c at *
   obtain ⟨nl, s⟩ := c
   simp only at k0 k1
   cases nl
   ·have hown3 := HST.out.2.alloc (.cells #[.bool false, .string s] 84)
    have HB3 : Hid (Below w.heap.size w (wr.alloc (.cells #[.bool false, .string s] 84))) := hid (HST.out.1.alloc hwz _)
    have hz3 : (wr.alloc (.cells #[.bool false, .string s] 84)).heap.size = wr.heap.size + 1 := by simp
    generalize hal : acc.length = n at *
    have HAL := hid hal
    clear hal
    go_wp2_with (at_builtin; refine wpList_append_own _ rfl _ _ 107 rfl (w.heap.size) 9 i0 (.string ⟨#[]⟩) 1 16 Tryz.underlying107 hi hz0 hz1 hz2 rfl (by decide) _ _ _ rfl (hown3.alloc _) ⟨_, 0, none⟩ 1 1 [(.string s)] rfl rfl (cell_one_at _ _ (by simp)) (by intro u hu; simp at hu; subst hu; rfl) (by unfold maxLen; omega) (by omega) (by simp; omega) ?_)
    intro v' w4 hown4 hgrow _
    have HB4 : Hid (Below w.heap.size w w4) := hid (push_below HB3.out (by omega) hown3 hgrow)
    have e4 : acc.map Value.string ++ [.string s] = (acc ++ [s]).map Value.string := by simp
    rw [e4] at hown4
    have HO4 := hid hown4
    clear e4 hown4 hgrow hown3
    go_wp2
    go_roundg (gk - 1)
    case rel => exact ⟨q + 1, by omega, by go_num, hid ⟨HB4.out, by rw [HNX.out, if_neg (by simp), List.length_append, List.length_singleton, HAL.out]; exact HO4.out⟩⟩
    case measure => omega
   ·have HB3 : Hid (Below w.heap.size w (wr.alloc (.cells #[.bool true, .string s] 84))) := hid (HST.out.1.alloc hwz _)
    have HO3 := hid (HST.out.2.alloc (.cells #[.bool true, .string s] 84))
    have HNX2 : Hid (textsL (cs.take (q + 1)) = acc) := hid (by rw [HNX.out, if_pos rfl])
    generalize hal : acc.length = n at *
    have HAL := hid hal
    clear hal
    go_wp2
    go_roundg (gk - 1)
    case rel => exact ⟨q + 1, by omega, by go_num, hid ⟨HB3.out, by rw [HNX2.out, HAL.out]; exact HO3.out⟩⟩
    case measure => omega
  ·obtain rfl : q = L := by omega
   have hql := HTL.out q
   have HR : Hid (RdS wr wr.heap.size (.slice a3 (textsL (cs.take q)).length c3) (textsL (cs.take q))) := hid (rdS_of_own HST.out.2)
   have hwz := HST.out.1.size
   have HSET := hid (ref_Set _ _ _ wr HR.out (Nat.le_refl _) (by omega))
   rw [← HFIN.out] at HSET
   generalize (textsL (cs.take q)).length = n at *
   go_wp2_with fail
   with_reducible refine HSET.out.mono ?_
   rintro e w5 ⟨a5, c5, rfl, hown5, hb5⟩
   have HFI : Hid (GivesS w F (.returned (.slice a5 F.length c5)) w5) := hid ⟨a5, c5, rfl, own_base hown5 hwz, HST.out.1.trans (hb5.mono hwz)⟩
   generalize F.length = n2 at *
   go_wp2
   go_ret
   exact HFI.out
end Go.Proofs.YtaajpliifdlokaaGreatDoor

namespace Go.Proofs.YtaajpliifdlokaaGreatDoor
open Go.RowKit
set_option maxRecDepth 100000 in
set_option maxHeartbeats 4000000 in
theorem ref38_filters (id : Int) (nm : ByteArray) (v : Value) (xs : List Co) (B n : Nat) (w : World) (hv : RdCo w (· < B) v xs) (hB : B ≤ w.heap.size) (hl : xs.length ≤ 64) (hc : ∀ x ∈ xs, x.cells.length = n) (hn : n ≤ 4096) :
  Calls Tryz.prog 68 #[.agg #[.int .i64 id, .string nm, v]] w (fun e w' => ∃ a c, e = .returned (.slice a (filtersL xs).length c) ∧ RdPs w' (News w w') (.slice a (filtersL xs).length c) (filtersL xs) ∧ Below w.heap.size w w') := by
 obtain ⟨i0, hi0, hz0, hz1, hz2⟩ := info_parts info_ops
 obtain ⟨cv, ⟨va, vc, rfl, hvc, hvm, hr⟩, hcl⟩ := hv
 have HR := hid hr
 have HCL := hid hcl
 have HC := hid (fun q (hq : q < xs.length) => hc _ (getD_mem hq Co.z))
 have HFT : Hid (∀ q, q ≤ xs.length → (filtTo xs q).length ≤ 300000) := hid (fun q hq => by
  have h1 := filtTo_len (n := n) (fun x hx => Nat.le_of_eq (hc x hx)) q hq
  have h2 : q * (n + 1) ≤ 64 * 4097 := Nat.mul_le_mul (by omega) (by omega)
  omega)
 have HHL := hid (fun q (hq : q < xs.length) => (Nat.le_trans (hasC_len (xs.getD q Co.z)) (Nat.le_of_eq (hc _ (getD_mem hq Co.z)))))
 have HFA := hid (filt_all xs)
 have HF0 : Hid (filtTo xs 0 = [[]]) := hid rfl
 clear hr hcl hc
 unfold maxLen at hvm
 generalize hxl : xs.length = L at *
 clear hxl
 have HX0 := hid (BoxN.new w #[.int .i64 id, .string nm, .slice va L vc] 51)
 have HB0 := hid (((Below.refl w.heap.size w).alloc (Nat.le_refl _) (.cells #[.int .i64 id, .string nm, .slice va L vc] 51)).alloc (by simp) (.cells #[.slice none 0 0] 74))
 have hx2 := HX0.out.alloc (.cells #[.slice none 0 0] 74)
 have x2 := hx2.cell 2 rfl
 have hz0' : ((w.alloc (.cells #[.int .i64 id, .string nm, .slice va L vc] 51)).alloc (.cells #[.slice none 0 0] 74)).heap.size = w.heap.size + 2 := by simp
 have hps0 : PsSt ((w.alloc (.cells #[.int .i64 id, .string nm, .slice va L vc] 51)).alloc (.cells #[.slice none 0 0] 74)) (w.heap.size + 1) 74 (.slice (some ⟨w.heap.size + 1, 0, none⟩) 1 1) [[]] := by
  have h := World.ownsRow_lit (base := w.heap.size + 1) (e := 74) (size := 1) (w.alloc (.cells #[.int .i64 id, .string nm, .slice va L vc] 51)) #[.slice none 0 0] 1 (by simp) (by simp [maxLen]) rfl
  rw [World.size_alloc] at h
  exact ⟨fun _ => .slice none 0 0, h, by simp, fun i hi => by
   obtain rfl : i = 0 := by simp at hi; exact hi
   exact RdPo.nil⟩
 have HPS0 := hid hps0
 clear hx2 hps0 HX0
 go_enter Tryz.func68, Tryz.ntmps68
 generalize hLA : Code.loop _ = LA
 go_wp2_with fail
 generalize (w.alloc (.cells #[.int .i64 id, .string nm, .slice va L vc] 51)).alloc (.cells #[.slice none 0 0] 74) = W0 at *
 have hz0a := Nat.le_of_eq hz0'
 have hz0b := Nat.le_of_eq hz0'.symm
 clear hz0' x2
 subst hLA
 go_loopg [3, 12] L (fun N y i wr => ∃ (q : Nat), i = .int .i64 (q : Int) ∧ q + N = L ∧ w.heap.size + 2 ≤ wr.heap.size ∧ Hid (Below w.heap.size w wr) ∧ Hid (PsSt wr (w.heap.size + 1) 74 y (filtTo xs q)))
 case atStart => exact ⟨0, rfl, by omega, by omega, HB0, hid (by rw [HF0.out]; exact HPS0.out)⟩
 case round =>
  obtain ⟨q, rfl, hq, hlw, HB, HPS⟩ := hrel
  obtain ⟨wo, rfl⟩ : ∃ wo, wo = wr := ⟨wr, rfl⟩
  by_cases hp : 0 < gk
  ·have hqL : q < L := by omega
   obtain ⟨ba, oa, rfl, hba, hcella⟩ := HR.out (by omega)
   have hba' : ba < B := hba
   have k1 : wo.cell? ⟨ba, oa + q * 2, none⟩ = some (.string (xs.getD q Co.z).name) := (HB.out.cell (p := ⟨ba, oa + q * 2, none⟩) (by show ba < w.heap.size; omega)).trans (hcella q hqL 0 (by omega))
   have k2 : wo.cell? ⟨ba, oa + q * 2 + 1, none⟩ = some (cv q) := (HB.out.cell (p := ⟨ba, oa + q * 2 + 1, none⟩) (by show ba < w.heap.size; omega)).trans (hcella q hqL 1 (by omega))
   obtain ⟨ca, ck, hcq, -, hckm, hcr⟩ := HCL.out q hqL
   have hcn := HC.out q hqL
   have hft := HFT.out q (by omega)
   have hhl := HHL.out q hqL
   rw [hcq, hcn] at k2
   have HCD : Hid (valuesL (xs.getD q Co.z).cells = hasC (xs.getD q Co.z)) := hid rfl
   have HI0 := hid (filtIn_zero xs q)
   have HIS := hid (fun j h => @filtIn_snoc xs q j h)
   have HIA := hid (filtIn_all xs q)
   have HIL := hid (fun j => filtIn_len xs q j)
   have HVA := hid (fun W (hW : Below w.heap.size w W) => ref_Values (xs.getD q Co.z).name (xs.getD q Co.z).cells (.slice ca n ck) B W (by
    have h := HCL.out q hqL
    have h2 : RdCl w (· < B) (.slice ca n ck) (xs.getD q Co.z).cells := ⟨ca, ck, by rw [hcn], by rw [hcn]; have := h; obtain ⟨a5, c5, e5, h5, -⟩ := h; rw [hcq] at e5; obtain ⟨-, -, rfl⟩ := Value.slice.inj e5; rw [hcn] at h5; exact h5, hckm, hcr⟩
    exact h2.keep fun p (hp : p.block < B) => hW.cell (p := p) (by omega)) (Nat.le_trans hB hW.size) (by rw [hcn]; omega))
   rw [HCD.out] at HVA
   clear hcella hcq hcr hcn HCD
   generalize xs.getD q Co.z = x at *
   obtain ⟨xn, xc⟩ := x
   simp only at k1 HVA
   have HCB := hid (BoxN.new wo #[.string xn, .slice ca n ck] 55)
   have HBO := hid ((Below.refl wo.heap.size wo).alloc (Nat.le_refl _) (.cells #[.string xn, .slice ca n ck] 55))
   have hz5 : (wo.alloc (.cells #[.string xn, .slice ca n ck] 55)).heap.size = wo.heap.size + 1 := by simp
   obtain ⟨wr, hwr⟩ : ∃ W, W = wo.alloc (.cells #[.string xn, .slice ca n ck] 55) := ⟨_, rfl⟩
   rw [← hwr] at HCB HBO hz5
   have hlr1 := Nat.le_of_eq hz5
   have hlr := Nat.le_of_eq hz5.symm
   clear hz5
   have HPW := hid (HPS.out.later HBO.out (by omega))
   have HBW := hid (HB.out.trans (HBO.out.mono (by omega)))
   obtain ⟨L0, hL0⟩ := HPW.out.owns
   have HL0 := hid hL0
   obtain ⟨ya, yc, rfl⟩ := own_slice hL0
   obtain ⟨L1, hL1⟩ := HPS.out.owns
   have HYB : Hid (∀ k, (Value.slice ya (filtTo xs q).length yc).ownBlock = some k → k < wo.heap.size) := hid (fun k hk => (hL1.lt k hk).2)
   clear hL0 hL1
   have HIT0 : Hid (filtIn xs q 0 = filtTo xs q ++ [[opFull q]]) := HI0
   generalize filtTo xs q = fs at *
   generalize hfl : fs.length = m at *
   have HFL := hid hfl
   clear hfl
   have HL2 := hid ((HL0.out.alloc (.cells #[.int .i64 2, .int .i64 (q : Int), .string ⟨#[]⟩, .slice none 0 0] 122)).alloc (.cells #[.slice (some ⟨wr.heap.size, 0, none⟩) 1 1] 74))
   have hn2 := BoxN.new (wr.alloc (.cells #[.int .i64 2, .int .i64 (q : Int), .string ⟨#[]⟩, .slice none 0 0] 122)) #[.slice (some ⟨wr.heap.size, 0, none⟩) 1 1] 74
   rw [World.size_alloc] at hn2
   have HN2 := hid hn2
   have HB2 := hid ((HBW.out.alloc (by omega) (.cells #[.int .i64 2, .int .i64 (q : Int), .string ⟨#[]⟩, .slice none 0 0] 122)).alloc (by simp; omega) (.cells #[.slice (some ⟨wr.heap.size, 0, none⟩) 1 1] 74))
   clear hn2
   go_upto_region 5 with fail
   rw [← hwr]
   clear hwr k1 k2
   go_wp2_with (at_builtin; refine wpList_append_form _ rfl _ _ 119 119 rfl (w.heap.size + 1) 74 74 i0 (.slice none 0 0) 1 24 Tryz.underlying119 Tryz.underlying119 hi0 hz0 hz1 hz2 rfl (by decide) (.slice ya m yc) m _ rfl HL2.out (some ⟨_, 0, none⟩) 1 1 [.slice (some ⟨wr.heap.size, 0, none⟩) 1 1] rfl rfl (fun _ => ⟨_, rfl, World.news_of_block HN2.out⟩) (by intro u hu; simp at hu; subst hu; rfl) (by omega) (by unfold maxLen; omega) (by omega) (by simp; omega) ?_; intro p8 cap8 w8 hown8 hg8 hat8 hlt8; have HCB8 := hid (((HCB.out.alloc (.cells #[.int .i64 2, .int .i64 (q : Int), .string ⟨#[]⟩, .slice none 0 0] 122)).alloc (.cells #[.slice (some ⟨wr.heap.size, 0, none⟩) 1 1] 74)).grown hg8 (fun e => by (have := HYB.out _ e.symm); omega)); have c0 := HCB8.out.cell 0 rfl; have c1 := HCB8.out.cell 1 rfl; have HG8 := hid hg8; have HOWN8 := hid hown8; have HAT8 := hid hat8; clear hown8 hg8 hat8)
   have HP8 : Hid (PsSt w8 (w.heap.size + 1) 74 (.slice (some ⟨p8, 0, none⟩) (m + 1) cap8) (filtIn xs q 0)) := hid (by
    rw [HIT0.out]
    exact ps_push (o := opFull q) HPW.out (by omega) rfl (by rw [HFL.out]) (by rw [HFL.out]; exact HL2.out) HOWN8.out HG8.out HAT8.out)
   have hgs := HG8.out.size
   have hz8 : wr.heap.size + 2 ≤ w8.heap.size := by simpa using hgs
   have HB8 := hid (HB2.out.grown HG8.out (by simp; omega) (fun k hk => by have := (HL0.out.lt k hk).1; omega))
   have HKY := hid (HVA.out w8 HB8.out)
   clear HPW HL2 HN2 HL0 HG8 HOWN8 HAT8 HVA HCB HCB8
   go_wp2_with fail
   clear c0 c1
   with_reducible refine HKY.out.mono ?_
   clear HKY
   rintro e w10 ⟨sa, sc, rfl, hown10, hb10⟩
   have hz10 := hb10.size
   have HB10 := hid (HB8.out.trans (hb10.mono (by omega)))
   have HP10 := hid (HP8.out.later hb10 (by omega))
   have HOS := hid hown10
   clear hb10 hown10 HP8 HB8
   generalize hHn : (hasC (⟨xn, xc⟩ : Co)).length = hn2 at *
   have HHN := hid hHn
   clear hHn
   generalize hasC (⟨xn, xc⟩ : Co) = H at *
   go_wp2_with fail
   go_loopg [3, 26] hn2 (fun N y i wr => ∃ (k : Nat), i = .int .i64 (k : Int) ∧ k + N = hn2 ∧ w10.heap.size ≤ wr.heap.size ∧ Hid (Below w.heap.size w wr) ∧ Hid (wr.ownsRow w8.heap.size 9 1 (.slice sa hn2 sc) hn2 (H.map Value.string)) ∧ Hid (PsSt wr (w.heap.size + 1) 74 y (filtIn xs q k)))
   case atStart => exact ⟨0, rfl, by omega, by omega, HB10, HOS, HP10⟩
   case round =>
    obtain ⟨k, rfl, hk, hzr, HG, HOS, HPS2⟩ := hrel
    obtain ⟨L3, hL3⟩ := HPS2.out.owns
    have HL3 := hid hL3
    obtain ⟨za, zc, rfl⟩ := own_slice hL3
    clear hL3
    by_cases hkp : 0 < gk
    ·have hkn : k < hn2 := by omega
     obtain ⟨sb, sc', hsg, -, -⟩ := HOS.out.form (by omega)
     obtain ⟨rfl, -, rfl⟩ := Value.slice.inj hsg
     have s0 : wr.cell? ⟨sb, k, none⟩ = some (.string (H.getD k ⟨#[]⟩)) := (HOS.out.cellAt k (by omega)).trans (smap_get (by rw [HHN.out]; exact hkn))
     have HISk := hid (HIS.out k hkn)
     have hfil := HIL.out k
     clear hsg
     generalize H.getD k ⟨#[]⟩ = tx at *
     generalize filtIn xs q k = f2 at *
     generalize hf2l : f2.length = m2 at *
     have HF2L := hid hf2l
     clear hf2l
     have HL2 := hid ((HL3.out.alloc (.cells #[.int .i64 1, .int .i64 (q : Int), .string tx, .slice none 0 0] 122)).alloc (.cells #[.slice (some ⟨wr.heap.size, 0, none⟩) 1 1] 74))
     have hn2' := BoxN.new (wr.alloc (.cells #[.int .i64 1, .int .i64 (q : Int), .string tx, .slice none 0 0] 122)) #[.slice (some ⟨wr.heap.size, 0, none⟩) 1 1] 74
     rw [World.size_alloc] at hn2'
     have HN2 := hid hn2'
     have HB2' := hid ((HG.out.alloc (by omega) (.cells #[.int .i64 1, .int .i64 (q : Int), .string tx, .slice none 0 0] 122)).alloc (by simp; omega) (.cells #[.slice (some ⟨wr.heap.size, 0, none⟩) 1 1] 74))
     clear hn2'
     go_wp2_with (at_builtin; refine wpList_append_form _ rfl _ _ 119 119 rfl (w.heap.size + 1) 74 74 i0 (.slice none 0 0) 1 24 Tryz.underlying119 Tryz.underlying119 hi0 hz0 hz1 hz2 rfl (by decide) (.slice za m2 zc) m2 _ rfl HL2.out (some ⟨_, 0, none⟩) 1 1 [.slice (some ⟨wr.heap.size, 0, none⟩) 1 1] rfl rfl (fun _ => ⟨_, rfl, World.news_of_block HN2.out⟩) (by intro u hu; simp at hu; subst hu; rfl) (by omega) (by unfold maxLen; omega) (by omega) (by simp; omega) ?_; intro p9 cap9 w9 hown9 hg9 hat9 hlt9; have HG9 := hid hg9; have HOWN9 := hid hown9; have HAT9 := hid hat9; clear hown9 hg9 hat9)
     clear s0
     have HOS2 := hid ((HOS.out.alloc (.cells #[.int .i64 1, .int .i64 (q : Int), .string tx, .slice none 0 0] 122)).alloc (.cells #[.slice (some ⟨wr.heap.size, 0, none⟩) 1 1] 74))
     have hgs9 := HG9.out.size
     go_wp2
     go_roundg (gk - 1)
     case rel => exact ⟨k + 1, by go_num, by omega, by simp at hgs9; omega, hid (HB2'.out.grown HG9.out (by simp; omega) (fun k hk => by have := (HL3.out.lt k hk).1; omega)), hid (HOS2.out.kept HG9.out (own_apartC HOS2.out HL2.out (by decide))), hid (by
      rw [HISk.out]
      exact ps_push (o := opEq q tx) HPS2.out (by omega) rfl (by rw [HF2L.out]) (by rw [HF2L.out]; exact HL2.out) HOWN9.out HG9.out HAT9.out)⟩
     case measure => omega
    ·obtain rfl : gk = 0 := by omega
     obtain rfl : k = hn2 := by omega
     have HP3 : Hid (PsSt wr (w.heap.size + 1) 74 (.slice za (filtIn xs q k).length zc) (filtTo xs (q + 1))) := hid (by
      have h := HPS2.out
      rw [HIA.out] at h ⊢
      exact h)
     go_wp2
     go_roundg (gk - 1)
     case rel => exact ⟨q + 1, by go_num, by omega, by omega, HG, HP3⟩
     case measure => omega
  ·obtain rfl : gk = 0 := by omega
   obtain rfl : q = L := by omega
   have hps := HPS.out
   rw [HFA.out] at hps
   obtain ⟨L0, hL0⟩ := hps.owns
   obtain ⟨ya, yc, rfl⟩ := own_slice hL0
   have HRD := hid hps.read
   clear hps hL0
   go_wp2
   go_ret
   exact ⟨ya, yc, rfl, HRD.out.more fun b hb => ⟨by have := hb.1; omega, hb.2⟩, HB.out⟩
end Go.Proofs.YtaajpliifdlokaaGreatDoor
