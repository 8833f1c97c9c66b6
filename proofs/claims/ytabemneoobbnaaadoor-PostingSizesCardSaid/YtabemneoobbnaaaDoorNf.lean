/- Contract of the reference's Values of a column. -/
import Derived.Test.YtabemneoobbnaaaDoorNe
namespace Go.Proofs.YtabemneoobbnaaaDoor
open Go.RowKit

/-- the texts of the cells that are not null, and their set -/
def textsL (cs : List Cl) : List ByteArray := (cs.filter fun c => !c.null).map Cl.text
def valuesL (cs : List Cl) : List ByteArray := setOfL (textsL cs)
theorem texts_take {cs : List Cl} {k : Nat} (h : k < cs.length) : textsL (cs.take (k + 1)) = if (cs.getD k Cl.z).null = true then textsL (cs.take k) else textsL (cs.take k) ++ [(cs.getD k Cl.z).text] := by
  unfold textsL
  rw [List.take_succ_eq_append_getElem h, List.filter_append, List.map_append]
  have e : cs.getD k Cl.z = cs[k] := by simp [List.getD, h]
  rw [e, List.filter_cons, List.filter_nil]
  cases h2 : cs[k].null <;> simp [h2]
theorem texts_len (cs : List Cl) : (textsL cs).length ≤ cs.length := by
  unfold textsL; rw [List.length_map]; exact List.length_filter_le _ _
theorem texts_take_len (cs : List Cl) (k : Nat) : (textsL (cs.take k)).length ≤ k := Nat.le_trans (texts_len _) (List.length_take_le _ _)
theorem values_len (cs : List Cl) : (valuesL cs).length ≤ cs.length := Nat.le_trans (setOfL_len _) (texts_len _)

set_option maxRecDepth 100000 in
set_option maxHeartbeats 1000000 in
theorem ref_Values (nm : ByteArray) (cs : List Cl) (v : Value) (B : Nat) (w : World) (hv : RdCl w (· < B) v cs) (hB : B ≤ w.heap.size) (hl : cs.length ≤ 1048576) :
    Calls Tryd.prog 28 #[.agg #[.string nm, v]] w (GivesS w (valuesL cs)) := by
  obtain ⟨a, k, rfl, hk, hm, hrd⟩ := hv
  obtain ⟨i0, hi, hz0, hz1, hz2⟩ := info_parts info_str
  have HRD := hid hrd
  have HTK := hid (fun q h => @texts_take cs q h)
  have HTL := hid (fun q => texts_take_len cs q)
  have HFIN : Hid (valuesL cs = setOfL (textsL (cs.take cs.length))) := hid (by rw [List.take_length]; rfl)
  clear hrd
  generalize valuesL cs = F at *
  generalize hcl : cs.length = L at *
  have HCL := hid hcl
  clear hcl
  unfold maxLen at hm
  go_enter Tryd.func28, Tryd.ntmps28
  go_wp2_with fail
  go_loopg [3, 9] L (fun N v i wr => ∃ q : Nat, q + N = L ∧ i = .int .i64 (q : Int) ∧ Hid (Below w.heap.size w wr ∧ wr.ownsRow w.heap.size 9 1 v (textsL (cs.take q)).length ((textsL (cs.take q)).map Value.string)))
  case atStart => exact ⟨0, by omega, rfl, hid ⟨by have := Below.refl w.heap.size w; repeat' (first | (with_reducible exact Below.refl _ _) | (with_reducible assumption) | (with_reducible refine below_drewN ?_) | (with_reducible refine Below.alloc ?_ ?_ _) | (with_reducible refine Below.drew ?_) | (with_reducible refine Below.setCell ?_ ?_ _) | (with_reducible refine Below.trans ?_ (Below.mono (by with_reducible assumption) ?_)) | go_size), World.ownsRow_nil _ _ _ _⟩⟩
  case round =>
    obtain ⟨q, hq, rfl, HST⟩ := hrel
    obtain ⟨a3, c3, rfl⟩ := own_slice HST.out.2
    by_cases hp : 0 < gk
    · obtain ⟨b, o, rfl, hb, hcell⟩ := HRD.out (by omega)
      have hb' : b < B := hb
      have hbw : b < w.heap.size := by omega
      have hwz := HST.out.1.size
      have k0 : wr.cell? ⟨b, o + q * 2, none⟩ = some (.bool (cs.getD q Cl.z).null) := (HST.out.1.cell (p := ⟨b, o + q * 2, none⟩) hbw).trans (hcell q (by omega) 0 (by omega))
      have k1 : wr.cell? ⟨b, o + q * 2 + 1, none⟩ = some (.string (cs.getD q Cl.z).text) := (HST.out.1.cell (p := ⟨b, o + q * 2 + 1, none⟩) hbw).trans (hcell q (by omega) 1 (by omega))
      have HNX := hid (HTK.out q (by have := HCL.out; omega))
      have hql := HTL.out q
      generalize textsL (cs.take q) = acc at *
      clear hcell
      generalize cs.getD q Cl.z = c at *
      obtain ⟨nl, s⟩ := c
      simp only at k0 k1
      cases nl
      · have hown3 := HST.out.2.alloc (.cells #[.bool false, .string s] 95)
        have HB3 : Hid (Below w.heap.size w (wr.alloc (.cells #[.bool false, .string s] 95))) := hid (HST.out.1.alloc hwz _)
        have hz3 : (wr.alloc (.cells #[.bool false, .string s] 95)).heap.size = wr.heap.size + 1 := by simp
        generalize hal : acc.length = n at *
        have HAL := hid hal
        clear hal
        go_wp2_with (at_builtin; refine wpList_append_own _ rfl _ _ 27 rfl (w.heap.size) 9 i0 (.string ⟨#[]⟩) 1 16 Tryd.underlying27 hi hz0 hz1 hz2 rfl (by decide) _ _ _ rfl (hown3.alloc _) ⟨_, 0, none⟩ 1 1 [(.string s)] rfl rfl (cell_one_at _ _ (by simp)) (by intro u hu; simp at hu; subst hu; rfl) (by unfold maxLen; omega) (by omega) (by simp; omega) ?_)
        intro v' w4 hown4 hgrow _
        have HB4 : Hid (Below w.heap.size w w4) := hid (push_below HB3.out (by omega) hown3 hgrow)
        have e4 : acc.map Value.string ++ [.string s] = (acc ++ [s]).map Value.string := by simp
        rw [e4] at hown4
        have HO4 := hid hown4
        clear e4 hown4 hgrow hown3
        go_wp2
        go_roundg (gk - 1)
        case rel => exact ⟨q + 1, by omega, by go_num, hid ⟨HB4.out, by rw [HNX.out, if_neg (by simp), List.length_append, List.length_singleton, HAL.out]; exact HO4.out⟩⟩
        case measure => omega
      · have HB3 : Hid (Below w.heap.size w (wr.alloc (.cells #[.bool true, .string s] 95))) := hid (HST.out.1.alloc hwz _)
        have HO3 := hid (HST.out.2.alloc (.cells #[.bool true, .string s] 95))
        have HNX2 : Hid (textsL (cs.take (q + 1)) = acc) := hid (by rw [HNX.out, if_pos rfl])
        generalize hal : acc.length = n at *
        have HAL := hid hal
        clear hal
        go_wp2
        go_roundg (gk - 1)
        case rel => exact ⟨q + 1, by omega, by go_num, hid ⟨HB3.out, by rw [HNX2.out, HAL.out]; exact HO3.out⟩⟩
        case measure => omega
    · obtain rfl : q = L := by omega
      have hql := HTL.out q
      have HR : Hid (RdS wr wr.heap.size (.slice a3 (textsL (cs.take q)).length c3) (textsL (cs.take q))) := hid (rdS_of_own HST.out.2)
      have hwz := HST.out.1.size
      have HSET := hid (ref_Set _ _ _ wr HR.out (Nat.le_refl _) (by omega))
      rw [← HFIN.out] at HSET
      generalize (textsL (cs.take q)).length = n at *
      go_wp2_with fail
      with_reducible refine HSET.out.mono ?_
      rintro e w5 ⟨a5, c5, rfl, hown5, hb5⟩
      have HFI : Hid (GivesS w F (.returned (.slice a5 F.length c5)) w5) := hid ⟨a5, c5, rfl, own_base hown5 hwz, HST.out.1.trans (hb5.mono hwz)⟩
      generalize F.length = n2 at *
      go_wp2
      go_ret
      exact HFI.out

end Go.Proofs.YtabemneoobbnaaaDoor
