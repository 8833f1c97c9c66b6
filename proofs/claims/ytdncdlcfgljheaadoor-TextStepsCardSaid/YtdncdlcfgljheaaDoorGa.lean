/- Contracts of text.Points and the reference's Points. -/
import Derived.Test.YtdncdlcfgljheaaDoorRows
import Derived.Test.YtdncdlcfgljheaaDoorPt
namespace Go.Proofs.YtdncdlcfgljheaaDoor
open Go.RowKit

theorem info_int : (Tryd.prog.info? 3).map (fun i => (i.zero, i.size, i.bytes)) = some (some (.int .i64 0), 1, 8) := by kernel_rfl

set_option maxHeartbeats 1000000 in
theorem ref_Points (s : ByteArray) (w : World) (hs : s.size ≤ 1099511627776) :
    Calls Tryd.prog 22 #[.string s] w (Gives w (pts s).length (natF (pts s))) := by
  obtain ⟨i0, hi, hz0, hz1, hz2⟩ := info_parts info_int
  go_enter Tryd.func22, Tryd.ntmps22
  go_wp2
  go_loopw [3] (fun v wr => ∃ (pos b : Nat) (acc : List Nat), wr.heap[w.heap.size]? = some (.stringIter s pos) ∧ wr.ownsRow w.heap.size 3 1 v acc.length (acc.map fun x : Nat => Value.int .i64 (x : Int)) ∧
    Hid (acc ++ ptsFrom s b pos = pts s) ∧ s.size ≤ pos + b ∧ acc.length ≤ pos ∧ Below w.heap.size w wr) (fun _ wr => s.size - wr.iterPos w.heap.size)
  case atStart => exact ⟨0, s.size, [], heap_alloc_new w _, World.ownsRow_nil _ _ _ _, hid (by simp [pts]), by omega, Nat.le_refl _, (Below.refl _ _).alloc (Nat.le_refl _) _⟩
  case round =>
    obtain ⟨pos, b, acc, hit, hown, hacc, hb, hl, hbl⟩ := hrel
    have HIT := hid hit
    have HB := hid hbl
    have hbs := hbl.size
    have hip := iterPos_of hit
    have HP := hid hip
    clear hbl hip
    by_cases hp : pos < s.size
    · have hnx : ∀ ty, (Instr.next (.pointer (some ⟨w.heap.size, 0, none⟩)) true ty).run Tryd.prog wr = _ := fun ty => Lib.run_next_any_at wr w.heap.size s pos ty hit hp
      have hwd := Lib.decode_width_pos s pos hp
      have hle := decode_le s pos
      have hown2 := own_iterAt hown hit (pos + (Utf8.decode s pos).2)
      have hit2 := hid (Lib.iterAt_heap wr w.heap.size s pos (pos + (Utf8.decode s pos).2) hit)
      have hbl2 := hid (Lib.below_iterAt HB.out (Nat.le_refl _) s (pos + (Utf8.decode s pos).2))
      have hsz2 := Lib.iterAt_size wr w.heap.size s (pos + (Utf8.decode s pos).2)
      have HN := hid (fun f => ptsFrom_next s f pos hp)
      clear hit hown
      generalize (Utf8.decode s pos).1 = r at *
      generalize (Utf8.decode s pos).2 = wd at *
      have hsz3 : w.heap.size ≤ (wr.iterAt w.heap.size s (pos + wd)).heap.size := by omega
      clear hsz2
      generalize wr.iterAt w.heap.size s (pos + wd) = W at *
      go_wp2_with (at_builtin; refine wpList_append_own _ rfl _ _ 36 rfl (w.heap.size) 3 i0 (.int .i64 0) 1 8 Tryd.underlying36 hi hz0 hz1 hz2 rfl (by decide) _ _ _ rfl (hown2.alloc _) ⟨_, 0, none⟩ 1 1 [(.int .i64 (r : Int))] rfl rfl (cell_one_new _ _ _) (by intro u hu; simp at hu; subst hu; rfl) (by unfold maxLen; omega) (by omega) (by simp; omega) ?_)
      intro v' w1 hown' hgrow _
      have hbl3 := hid (push_below hbl2.out hsz3 hown2 hgrow)
      have hit3 := hid (iter_push hown2 hit2.out hgrow)
      rw [nmap_snoc] at hown'
      have hpos := hid (iterPos_of hit3.out)
      clear hgrow hown2 hnx
      go_wp2
      go_roundw
      case rel =>
        cases b with
        | zero => omega
        | succ b => exact ⟨pos + wd, b, acc ++ [r], hit3.out, by simpa using hown', hid (by rw [← hacc.out, HN.out b, List.append_assoc]; rfl), by omega, by simp; omega, hbl3.out⟩
      case measure => rw [hpos.out, HP.out]; omega
    · have hnx : ∀ ty, (Instr.next (.pointer (some ⟨w.heap.size, 0, none⟩)) true ty).run Tryd.prog wr = _ := fun ty => Lib.run_next_end_at wr w.heap.size s pos ty hit hp
      clear hit
      have hfin := gives_of hown HB.out
      have ha := hacc.out
      rw [ptsFrom_end s b pos hp, List.append_nil] at ha
      rw [ha] at hfin
      have HF := hid hfin
      clear hfin ha
      go_wp2
      go_ret
      exact HF.out

set_option maxHeartbeats 1000000 in
theorem text_Points (s : ByteArray) (w : World) (hs : s.size ≤ 1099511627776) :
    Calls Tryd.prog 21 #[.string s] w (Gives w (pts s).length (natF (pts s))) := by
  obtain ⟨i0, hi, hz0, hz1, hz2⟩ := info_parts info_int
  go_enter Tryd.func21, Tryd.ntmps21
  go_wp2_with (at_make; refine wpList_make_own _ rfl _ _ 36 rfl w.heap.size 3 i0 (.int .i64 0) 1 Tryd.underlying36 hi hz0 hz1 .i64 .i64 _ s.size rfl rfl rfl (by rw [hz2]; omega) (by unfold maxLen; omega) (Nat.le_refl _) ?_; intro w1 hown1 hgrow1)
  have hb1 : Below w.heap.size w w1 := (Below.refl _ _).grown hgrow1 (Nat.le_refl _) (fun k hk => by cases hk)
  have HB1 := hid hb1
  have hz1' := hb1.size
  have HOWN1 := hid (hown1.alloc (.stringIter s 0))
  clear hb1 hown1 hgrow1
  generalize hk0 : w1.heap.size = k0 at *
  have HK0 := hid hk0
  clear hk0
  go_loopw [3] (fun v wr => ∃ (pos b : Nat) (acc : List Nat), wr.heap[k0]? = some (.stringIter s pos) ∧ wr.ownsRow w.heap.size 3 1 v acc.length (acc.map fun x : Nat => Value.int .i64 (x : Int)) ∧
    Hid (acc ++ ptsFrom s b pos = pts s) ∧ s.size ≤ pos + b ∧ acc.length ≤ pos ∧ Below w.heap.size w wr) (fun _ wr => s.size - wr.iterPos k0)
  case atStart => exact ⟨0, s.size, [], by rw [← HK0.out]; exact heap_alloc_new w1 _, HOWN1.out, hid (by simp [pts]), by omega, Nat.le_refl _, HB1.out.alloc (by have := HK0.out; omega) _⟩
  case round =>
    obtain ⟨pos, b, acc, hit, hown, hacc, hb, hl, hbl⟩ := hrel
    have HIT := hid hit
    have HB := hid hbl
    have hbs := hbl.size
    have hip := iterPos_of hit
    have HP := hid hip
    clear hbl hip
    by_cases hp : pos < s.size
    · have hnx : ∀ ty, (Instr.next (.pointer (some ⟨k0, 0, none⟩)) true ty).run Tryd.prog wr = _ := fun ty => Lib.run_next_any_at wr k0 s pos ty hit hp
      have hwd := Lib.decode_width_pos s pos hp
      have hle := decode_le s pos
      have hown2 := own_iterAt hown hit (pos + (Utf8.decode s pos).2)
      have hit2 := hid (Lib.iterAt_heap wr k0 s pos (pos + (Utf8.decode s pos).2) hit)
      have hbl2 := hid (Lib.below_iterAt (k := k0) HB.out (by omega) s (pos + (Utf8.decode s pos).2))
      have hsz2 := Lib.iterAt_size wr k0 s (pos + (Utf8.decode s pos).2)
      have HN := hid (fun f => ptsFrom_next s f pos hp)
      clear hit hown
      generalize (Utf8.decode s pos).1 = r at *
      generalize (Utf8.decode s pos).2 = wd at *
      have hsz3 : w.heap.size ≤ (wr.iterAt k0 s (pos + wd)).heap.size := by omega
      clear hsz2
      generalize wr.iterAt k0 s (pos + wd) = W at *
      go_wp2_with (at_builtin; refine wpList_append_own _ rfl _ _ 36 rfl (w.heap.size) 3 i0 (.int .i64 0) 1 8 Tryd.underlying36 hi hz0 hz1 hz2 rfl (by decide) _ _ _ rfl (hown2.alloc _) ⟨_, 0, none⟩ 1 1 [(.int .i64 (r : Int))] rfl rfl (cell_one_new _ _ _) (by intro u hu; simp at hu; subst hu; rfl) (by unfold maxLen; omega) (by omega) (by simp; omega) ?_)
      intro v' w1 hown' hgrow _
      have hbl3 := hid (push_below hbl2.out hsz3 hown2 hgrow)
      have hit3 := hid (iter_push hown2 hit2.out hgrow)
      rw [nmap_snoc] at hown'
      have hpos := hid (iterPos_of hit3.out)
      clear hgrow hown2 hnx
      go_wp2
      go_roundw
      case rel =>
        cases b with
        | zero => omega
        | succ b => exact ⟨pos + wd, b, acc ++ [r], hit3.out, by simpa using hown', hid (by rw [← hacc.out, HN.out b, List.append_assoc]; rfl), by omega, by simp; omega, hbl3.out⟩
      case measure => rw [hpos.out, HP.out]; omega
    · have hnx : ∀ ty, (Instr.next (.pointer (some ⟨k0, 0, none⟩)) true ty).run Tryd.prog wr = _ := fun ty => Lib.run_next_end_at wr k0 s pos ty hit hp
      clear hit
      have hfin := gives_of hown HB.out
      have ha := hacc.out
      rw [ptsFrom_end s b pos hp, List.append_nil] at ha
      rw [ha] at hfin
      have HF := hid hfin
      clear hfin ha
      go_wp2
      go_ret
      exact HF.out

end Go.Proofs.YtdncdlcfgljheaaDoor
