/- Contracts over rules: Valid, Lengths, Within, Similar, the program's and the reference's, at an edit distance; the number of code points. -/
import Derived.Test.YtdncdlcfgljheaaGd
import Derived.Test.YtdncdlcfgljheaaFg
namespace Go.Proofs.Ytdncdlcfgljheaa
open Go.RowKit

set_option maxHeartbeats 400000 in
theorem utf8_count (s : ByteArray) (w : World) (hs : s.size ≤ 1099511627776) :
    Calls Try.prog 29 #[.string s] w (Ret w (.int .i64 ((Lib.runeCount s : Nat) : Int))) := by
  go_enter Try.func29, Try.ntmps29
  go_wp2
  go_loopw [2] (fun n w' => ∃ (pos b acc : Nat), w' = w.iter s pos ∧ n = .int .i64 acc ∧ acc + Lib.runeCountFrom s b pos = Lib.runeCount s ∧ s.size ≤ pos + b ∧ acc ≤ pos) (fun _ w' => s.size - w'.iterPos w.heap.size)
  case atStart => exact ⟨0, s.size, 0, rfl, rfl, by simp [Lib.runeCount], by omega, Nat.le_refl _⟩
  case round =>
    obtain ⟨pos, b, acc, rfl, rfl, hc, hb, ha⟩ := hrel
    by_cases hp : pos < s.size
    · have hnx : ∀ ty, (Instr.next (.pointer (some ⟨w.heap.size, 0, none⟩)) true ty).run Try.prog (w.iter s pos) = _ := fun ty => run_next_any w s pos ty hp
      have hwd := Lib.decode_width_pos s pos hp
      go_wp2
      go_roundw
      case rel =>
        cases b with
        | zero => omega
        | succ b =>
          refine ⟨pos + (Utf8.decode s pos).2, b, acc + 1, rfl, by go_num, ?_, by omega, by omega⟩
          rw [← hc]
          simp [Lib.runeCountFrom, hp]
          omega
      case measure =>
        simp
        omega
    · have hnx : ∀ ty, (Instr.next (.pointer (some ⟨w.heap.size, 0, none⟩)) true ty).run Try.prog (w.iter s pos) = _ := fun ty => run_next_end w s pos ty hp
      have HB : Hid (Below w.heap.size w (w.iter s pos)) := hid ((Below.refl _ _).alloc (Nat.le_refl _) _)
      go_wp2
      go_ret
      rw [Lib.runeCountFrom_end s b pos hp, Nat.add_zero] at hc
      subst hc
      exact ⟨rfl, HB.out⟩

set_option maxHeartbeats 400000 in
theorem dist_validE (L : Int) (w : World) (h0 : 0 ≤ L) (h8 : L ≤ 8) :
    Calls Try.prog 26 #[.agg #[.int .i64 2, .int .i64 L, .int .i64 0, .int .i64 0]] w (Ret w (.bool true)) := by
  go_enter Try.func26, Try.ntmps26
  go_wp2
  go_ret
  exact ⟨rfl, by repeat' (first | (with_reducible exact Below.refl _ _) | (with_reducible assumption) | (with_reducible refine below_drewN ?_) | (with_reducible refine Below.alloc ?_ ?_ _) | (with_reducible refine Below.drew ?_) | (with_reducible refine Below.setCell ?_ ?_ _) | (with_reducible refine Below.trans ?_ (Below.mono (by with_reducible assumption) ?_)) | go_size)⟩
set_option maxHeartbeats 400000 in
theorem ref_validE (L : Int) (w : World) (h0 : 0 ≤ L) (h8 : L ≤ 8) :
    Calls Try.prog 21 #[.agg #[.int .i64 2, .int .i64 L, .int .i64 0, .int .i64 0]] w (Ret w (.bool true)) := by
  go_enter Try.func21, Try.ntmps21
  go_wp2
  go_ret
  exact ⟨rfl, by repeat' (first | (with_reducible exact Below.refl _ _) | (with_reducible assumption) | (with_reducible refine below_drewN ?_) | (with_reducible refine Below.alloc ?_ ?_ _) | (with_reducible refine Below.drew ?_) | (with_reducible refine Below.setCell ?_ ?_ _) | (with_reducible refine Below.trans ?_ (Below.mono (by with_reducible assumption) ?_)) | go_size)⟩

/-- between which numbers of points similar texts lie -/
def LenE (w : World) (c : Nat) (L : Int) (e : Ending) (w' : World) : Prop :=
  ∃ lo : Int, e = .returned (.tuple #[.int .i64 lo, .int .i64 ((c : Int) + L), .bool true]) ∧ (∀ x : Nat, lo ≤ (x : Int) ↔ (c : Int) ≤ x + L) ∧ 0 ≤ lo ∧ lo ≤ c ∧ Below w.heap.size w w'

set_option maxHeartbeats 1000000 in
theorem dist_LengthsE (L : Int) (c : Nat) (w : World) (h0 : 0 ≤ L) (h8 : L ≤ 8) (hc : c ≤ 1099511627776) :
    Calls Try.prog 28 #[.agg #[.int .i64 2, .int .i64 L, .int .i64 0, .int .i64 0], .int .i64 (c : Int)] w (LenE w c L) := by
  go_enter Try.func28, Try.ntmps28
  go_wp2_with fail
  with_reducible refine (dist_validE L _ h0 h8).mono ?_
  rintro e w1 ⟨rfl, hb1⟩
  have k0 := cell_later hb1 (a := ⟨w.heap.size, 0, none⟩) (v := .int .i64 2) (by go_cell)
  have k1 := cell_later hb1 (a := ⟨w.heap.size, 1, none⟩) (v := .int .i64 L) (by go_cell)
  have HB := hid (show Below w.heap.size w w1 by repeat' (first | (with_reducible exact Below.refl _ _) | (with_reducible assumption) | (with_reducible refine below_drewN ?_) | (with_reducible refine Below.alloc ?_ ?_ _) | (with_reducible refine Below.drew ?_) | (with_reducible refine Below.setCell ?_ ?_ _) | (with_reducible refine Below.trans ?_ (Below.mono (by with_reducible assumption) ?_)) | go_size))
  clear hb1
  go_wp2
  go_quiet (fail)
  go_wp2
  · go_ret3
    exact ⟨(c : Int) - L, rfl, fun x => by omega, by omega, by omega, below_drewN HB.out⟩
  · go_ret3
    exact ⟨0, rfl, fun x => by omega, by omega, by omega, below_drewN HB.out⟩

/-- within: the distance, and whether it is small enough -/
def WithinP (w : World) (d : Bool) (e : Ending) (w' : World) : Prop := (∃ z : Int, e = .returned (.tuple #[.int .i64 z, .bool d])) ∧ Below w.heap.size w w'

set_option maxHeartbeats 1000000 in
theorem dist_Within (s t : ByteArray) (L : Int) (w : World) (hs : s.size ≤ 1099511627776) (ht : t.size ≤ 1099511627776) (h0 : 0 ≤ L) (h8 : L ≤ 8) :
    Calls Try.prog 36 #[.string s, .string t, .int .i64 L] w (WithinP w (Lv.within (pts s) (pts t) L.toNat)) := by
  have HP1 := hid (fun W => text_Points s W hs)
  have HP2 := hid (fun W => text_Points t W ht)
  have HE := hid (fun W => dist_Edit s t W hs ht)
  have hn1 : (pts s).length ≤ 1099511627776 := Nat.le_trans (pts_le s) hs
  have hn2 : (pts t).length ≤ 1099511627776 := Nat.le_trans (pts_le t) ht
  have HV : Hid (Lv.within (pts s) (pts t) L.toNat = decide ((pts s).length ≤ (pts t).length + L.toNat ∧ (pts t).length ≤ (pts s).length + L.toNat ∧ Lv.lev (pts s) (pts t) ≤ L.toNat)) := rfl
  generalize Lv.within (pts s) (pts t) L.toNat = F at *
  generalize Lv.lev (pts s) (pts t) = D at *
  generalize pts s = X at *
  generalize pts t = Y at *
  generalize X.length = n at *
  generalize Y.length = m at *
  go_enter Try.func36, Try.ntmps36
  go_wp2_with fail
  with_reducible refine (HP1.out _).mono ?_
  rintro e w1 ⟨a1, c1, rfl, hr1, hb1⟩
  have HB1 := hid hb1
  have hz1 := hb1.size
  clear hr1 hb1
  go_wp2_with fail
  with_reducible refine (HP2.out _).mono ?_
  rintro e w2 ⟨a2, c2, rfl, hr2, hb2⟩
  have HB2 := hid (HB1.out.trans (hb2.mono hz1))
  clear hr2 hb2 HB1
  have fin : ∀ W, Below w2.heap.size w2 W → Below w.heap.size w W := fun W h => HB2.out.trans (h.mono HB2.out.size)
  have FIN := hid fin
  clear fin
  by_cases hnm : (m : Int) ≤ n
  all_goals
    by_cases hfar : (n : Int) ≤ m + L ∧ (m : Int) ≤ n + L
  · obtain ⟨h1, h2⟩ := hfar
    go_wp2_with fail
    with_reducible refine (HE.out _).mono ?_
    rintro e w3 ⟨rfl, hb3⟩
    have HB3 := hid (FIN.out _ hb3)
    clear hb3
    by_cases hd : (D : Int) ≤ L
    · go_wp2
      go_ret2
      obtain rfl : F = true := by rw [HV.out]; exact decide_eq_true (by omega)
      exact ⟨⟨_, rfl⟩, HB3.out⟩
    · go_wp2
      go_ret2
      obtain rfl : F = false := by rw [HV.out]; exact decide_eq_false (by omega)
      exact ⟨⟨_, rfl⟩, HB3.out⟩
  · go_wp2_with fail
    go_ret2
    obtain rfl : F = false := by rw [HV.out]; exact decide_eq_false (by omega)
    exact ⟨⟨_, rfl⟩, HB2.out⟩
  · obtain ⟨h1, h2⟩ := hfar
    go_wp2_with fail
    with_reducible refine (HE.out _).mono ?_
    rintro e w3 ⟨rfl, hb3⟩
    have HB3 := hid (FIN.out _ hb3)
    clear hb3
    by_cases hd : (D : Int) ≤ L
    · go_wp2
      go_ret2
      obtain rfl : F = true := by rw [HV.out]; exact decide_eq_true (by omega)
      exact ⟨⟨_, rfl⟩, HB3.out⟩
    · go_wp2
      go_ret2
      obtain rfl : F = false := by rw [HV.out]; exact decide_eq_false (by omega)
      exact ⟨⟨_, rfl⟩, HB3.out⟩
  · go_wp2_with fail
    go_ret2
    obtain rfl : F = false := by rw [HV.out]; exact decide_eq_false (by omega)
    exact ⟨⟨_, rfl⟩, HB2.out⟩

set_option maxHeartbeats 1000000 in
theorem dist_SimilarE (s t : ByteArray) (L : Int) (w : World) (hs : s.size ≤ 1099511627776) (ht : t.size ≤ 1099511627776) (h0 : 0 ≤ L) (h8 : L ≤ 8) :
    Calls Try.prog 30 #[.agg #[.int .i64 2, .int .i64 L, .int .i64 0, .int .i64 0], .string s, .string t] w (Ret w (.bool (Lv.within (pts s) (pts t) L.toNat))) := by
  have HW := hid (fun W => dist_Within s t L W hs ht h0 h8)
  generalize Lv.within (pts s) (pts t) L.toNat = F at *
  go_enter Try.func30, Try.ntmps30
  go_wp2_with fail
  with_reducible refine (dist_validE L _ h0 h8).mono ?_
  rintro e w1 ⟨rfl, hb1⟩
  have k0 := cell_later hb1 (a := ⟨w.heap.size, 0, none⟩) (v := .int .i64 2) (by go_cell)
  have k1 := cell_later hb1 (a := ⟨w.heap.size, 1, none⟩) (v := .int .i64 L) (by go_cell)
  have HB := hid (show Below w.heap.size w w1 by repeat' (first | (with_reducible exact Below.refl _ _) | (with_reducible assumption) | (with_reducible refine below_drewN ?_) | (with_reducible refine Below.alloc ?_ ?_ _) | (with_reducible refine Below.drew ?_) | (with_reducible refine Below.setCell ?_ ?_ _) | (with_reducible refine Below.trans ?_ (Below.mono (by with_reducible assumption) ?_)) | go_size))
  clear hb1
  go_wp2_with fail
  with_reducible refine (HW.out _).mono ?_
  rintro e w2 ⟨⟨z, rfl⟩, hb2⟩
  have HB2 := hid (HB.out.trans (hb2.mono HB.out.size))
  clear hb2
  go_wp2
  go_ret
  exact ⟨rfl, HB2.out⟩

set_option maxHeartbeats 1000000 in
theorem ref_SimilarE (s t : ByteArray) (L : Int) (w : World) (hs : s.size ≤ 1099511627776) (ht : t.size ≤ 1099511627776) (h0 : 0 ≤ L) (h8 : L ≤ 8) :
    Calls Try.prog 11 #[.agg #[.int .i64 2, .int .i64 L, .int .i64 0, .int .i64 0], .string s, .string t] w (Ret w (.bool (decide (Lv.lev (pts s) (pts t) ≤ L.toNat)))) := by
  have HE := hid (fun W => ref_Edit s t W hs ht)
  generalize Lv.lev (pts s) (pts t) = D at *
  go_enter Try.func11, Try.ntmps11
  go_wp2_with fail
  with_reducible refine (ref_validE L _ h0 h8).mono ?_
  rintro e w1 ⟨rfl, hb1⟩
  have k0 := cell_later hb1 (a := ⟨w.heap.size, 0, none⟩) (v := .int .i64 2) (by go_cell)
  have k1 := cell_later hb1 (a := ⟨w.heap.size, 1, none⟩) (v := .int .i64 L) (by go_cell)
  have HB := hid (show Below w.heap.size w w1 by repeat' (first | (with_reducible exact Below.refl _ _) | (with_reducible assumption) | (with_reducible refine below_drewN ?_) | (with_reducible refine Below.alloc ?_ ?_ _) | (with_reducible refine Below.drew ?_) | (with_reducible refine Below.setCell ?_ ?_ _) | (with_reducible refine Below.trans ?_ (Below.mono (by with_reducible assumption) ?_)) | go_size))
  have hz1 := hb1.size
  simp at hz1
  clear hb1
  go_wp2_with fail
  have hdd : decide ((D : Int) ≤ L) = decide (D ≤ L.toNat) := decide_eq_decide.2 (by omega)
  have HDD := hid hdd
  clear hdd
  go_region_held3 (fun w' => w'.cell? ⟨w.heap.size, 1, none⟩ = some (.int .i64 L)) (first | exact k1 | exact n1 | go_keep)
    (first
      | (go_at_call 22; go_must (((with_reducible refine (HE.out _).mono ?_); rintro e w4 ⟨rfl, hb4⟩; have n1 := cell_later hb4 (a := ⟨w.heap.size, 1, none⟩) (v := .int .i64 L) (by go_cell)))))
  go_wp2
  go_ret
  exact ⟨ret_bool HDD.out, by have hb := HB.out; repeat' (first | (with_reducible exact Below.refl _ _) | (with_reducible assumption) | (with_reducible refine below_drewN ?_) | (with_reducible refine Below.alloc ?_ ?_ _) | (with_reducible refine Below.drew ?_) | (with_reducible refine Below.setCell ?_ ?_ _) | (with_reducible refine Below.trans ?_ (Below.mono (by with_reducible assumption) ?_)) | go_size)⟩

end Go.Proofs.Ytdncdlcfgljheaa
