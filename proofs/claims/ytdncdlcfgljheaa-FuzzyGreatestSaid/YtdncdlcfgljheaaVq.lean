/- Contracts over the rule of equality, the program's and the reference's. -/
import Derived.Test.YtdncdlcfgljheaaVt
namespace Go.Proofs.Ytdncdlcfgljheaa
open Go.RowKit

set_option maxHeartbeats 400000 in
theorem ref_validQ (w : World) :
    Calls Try.prog 21 #[.agg #[.int .i64 1, .int .i64 0, .int .i64 0, .int .i64 0]] w (Ret w (.bool true)) := by
  go_enter Try.func21, Try.ntmps21
  go_wp2
  go_ret
  exact ⟨rfl, by repeat' (first | (with_reducible exact Below.refl _ _) | (with_reducible assumption) | (with_reducible refine below_drewN ?_) | (with_reducible refine Below.alloc ?_ ?_ _) | (with_reducible refine Below.drew ?_) | (with_reducible refine Below.setCell ?_ ?_ _) | (with_reducible refine Below.trans ?_ (Below.mono (by with_reducible assumption) ?_)) | go_size)⟩

set_option maxHeartbeats 1000000 in
theorem ref_SimilarQ (s t : ByteArray) (w : World) :
    Calls Try.prog 11 #[.agg #[.int .i64 1, .int .i64 0, .int .i64 0, .int .i64 0], .string s, .string t] w (Ret w (.bool (s.toList == t.toList))) := by
  go_enter Try.func11, Try.ntmps11
  go_wp2_with fail
  with_reducible refine (ref_validQ _).mono ?_
  rintro e w1 ⟨rfl, hb1⟩
  have k0 := cell_later hb1 (a := ⟨w.heap.size, 0, none⟩) (v := .int .i64 1) (by go_cell)
  have HB := hid (show Below w.heap.size w w1 by repeat' (first | (with_reducible exact Below.refl _ _) | (with_reducible assumption) | (with_reducible refine below_drewN ?_) | (with_reducible refine Below.alloc ?_ ?_ _) | (with_reducible refine Below.drew ?_) | (with_reducible refine Below.setCell ?_ ?_ _) | (with_reducible refine Below.trans ?_ (Below.mono (by with_reducible assumption) ?_)) | go_size))
  clear hb1
  go_wp2
  go_ret
  exact ⟨rfl, HB.out⟩

set_option maxHeartbeats 400000 in
theorem dist_validQ (w : World) :
    Calls Try.prog 26 #[.agg #[.int .i64 1, .int .i64 0, .int .i64 0, .int .i64 0]] w (Ret w (.bool true)) := by
  go_enter Try.func26, Try.ntmps26
  go_wp2
  go_ret
  exact ⟨rfl, by repeat' (first | (with_reducible exact Below.refl _ _) | (with_reducible assumption) | (with_reducible refine below_drewN ?_) | (with_reducible refine Below.alloc ?_ ?_ _) | (with_reducible refine Below.drew ?_) | (with_reducible refine Below.setCell ?_ ?_ _) | (with_reducible refine Below.trans ?_ (Below.mono (by with_reducible assumption) ?_)) | go_size)⟩

set_option maxHeartbeats 1000000 in
theorem dist_SimilarQ (s t : ByteArray) (w : World) :
    Calls Try.prog 30 #[.agg #[.int .i64 1, .int .i64 0, .int .i64 0, .int .i64 0], .string s, .string t] w (Ret w (.bool (s.toList == t.toList))) := by
  go_enter Try.func30, Try.ntmps30
  go_wp2_with fail
  with_reducible refine (dist_validQ _).mono ?_
  rintro e w1 ⟨rfl, hb1⟩
  have k0 := cell_later hb1 (a := ⟨w.heap.size, 0, none⟩) (v := .int .i64 1) (by go_cell)
  have HB := hid (show Below w.heap.size w w1 by repeat' (first | (with_reducible exact Below.refl _ _) | (with_reducible assumption) | (with_reducible refine below_drewN ?_) | (with_reducible refine Below.alloc ?_ ?_ _) | (with_reducible refine Below.drew ?_) | (with_reducible refine Below.setCell ?_ ?_ _) | (with_reducible refine Below.trans ?_ (Below.mono (by with_reducible assumption) ?_)) | go_size))
  clear hb1
  go_wp2
  go_ret
  exact ⟨rfl, HB.out⟩

set_option maxHeartbeats 1000000 in
theorem dist_LengthsQ (c : Nat) (w : World) (hc : c ≤ 1099511627776) :
    Calls Try.prog 28 #[.agg #[.int .i64 1, .int .i64 0, .int .i64 0, .int .i64 0], .int .i64 (c : Int)] w (fun e w' => e = .returned (.tuple #[.int .i64 (c : Int), .int .i64 (c : Int), .bool true]) ∧ Below w.heap.size w w') := by
  go_enter Try.func28, Try.ntmps28
  go_wp2_with fail
  with_reducible refine (dist_validQ _).mono ?_
  rintro e w1 ⟨rfl, hb1⟩
  have k0 := cell_later hb1 (a := ⟨w.heap.size, 0, none⟩) (v := .int .i64 1) (by go_cell)
  have k1 := cell_later hb1 (a := ⟨w.heap.size, 1, none⟩) (v := .int .i64 0) (by go_cell)
  have HB := hid (show Below w.heap.size w w1 by repeat' (first | (with_reducible exact Below.refl _ _) | (with_reducible assumption) | (with_reducible refine below_drewN ?_) | (with_reducible refine Below.alloc ?_ ?_ _) | (with_reducible refine Below.drew ?_) | (with_reducible refine Below.setCell ?_ ?_ _) | (with_reducible refine Below.trans ?_ (Below.mono (by with_reducible assumption) ?_)) | go_size))
  clear hb1
  go_wp2
  go_quiet (fail)
  go_wp2
  go_ret3
  exact ⟨rfl, below_drewN HB.out⟩

end Go.Proofs.Ytdncdlcfgljheaa
