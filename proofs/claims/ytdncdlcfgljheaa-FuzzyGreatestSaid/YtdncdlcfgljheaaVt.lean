/- Contracts over rules at the share of tokens, the program's and the reference's. -/
import Derived.Test.YtdncdlcfgljheaaCo
import Derived.Test.YtdncdlcfgljheaaGv
namespace Go.Proofs.Ytdncdlcfgljheaa
open Go.RowKit

set_option maxHeartbeats 400000 in
theorem dist_validT (N D : Int) (w : World) (h1 : 1 ≤ N) (h2 : N ≤ D) (h3 : D ≤ 1000) :
    Calls Try.prog 26 #[.agg #[.int .i64 3, .int .i64 0, .int .i64 N, .int .i64 D]] w (Ret w (.bool true)) := by
  go_enter Try.func26, Try.ntmps26
  go_wp2
  go_ret
  exact ⟨rfl, by repeat' (first | (with_reducible exact Below.refl _ _) | (with_reducible assumption) | (with_reducible refine below_drewN ?_) | (with_reducible refine Below.alloc ?_ ?_ _) | (with_reducible refine Below.drew ?_) | (with_reducible refine Below.setCell ?_ ?_ _) | (with_reducible refine Below.trans ?_ (Below.mono (by with_reducible assumption) ?_)) | go_size)⟩
set_option maxHeartbeats 400000 in
theorem ref_validT (N D : Int) (w : World) (h1 : 1 ≤ N) (h2 : N ≤ D) (h3 : D ≤ 1000) :
    Calls Try.prog 21 #[.agg #[.int .i64 3, .int .i64 0, .int .i64 N, .int .i64 D]] w (Ret w (.bool true)) := by
  go_enter Try.func21, Try.ntmps21
  go_wp2
  go_ret
  exact ⟨rfl, by repeat' (first | (with_reducible exact Below.refl _ _) | (with_reducible assumption) | (with_reducible refine below_drewN ?_) | (with_reducible refine Below.alloc ?_ ?_ _) | (with_reducible refine Below.drew ?_) | (with_reducible refine Below.setCell ?_ ?_ _) | (with_reducible refine Below.trans ?_ (Below.mono (by with_reducible assumption) ?_)) | go_size)⟩

/-- similar by the share of common tokens -/
def simT (N D : Int) (s t : ByteArray) : Bool :=
  if (tokSet s).length + (tokSet t).length - commonL (tokSet s) (tokSet t) = 0 then s.toList == t.toList
  else decide (N * (((tokSet s).length + (tokSet t).length - commonL (tokSet s) (tokSet t) : Nat) : Int) ≤ D * ((commonL (tokSet s) (tokSet t) : Nat) : Int))

set_option maxHeartbeats 1000000 in
theorem dist_SimilarT (s t : ByteArray) (N D : Int) (w : World) (hs : s.size ≤ 1073741824) (ht : t.size ≤ 1073741824) (h1 : 1 ≤ N) (h2 : N ≤ D) (h3 : D ≤ 1000) :
    Calls Try.prog 30 #[.agg #[.int .i64 3, .int .i64 0, .int .i64 N, .int .i64 D], .string s, .string t] w (Ret w (.bool (simT N D s t))) := by
  have HTK := hid (fun W => dist_TokensOf s t W hs ht)
  unfold TokP at HTK
  have HS : Hid (simT N D s t = if (tokSet s).length + (tokSet t).length - commonL (tokSet s) (tokSet t) = 0 then s.toList == t.toList else decide (N * (((tokSet s).length + (tokSet t).length - commonL (tokSet s) (tokSet t) : Nat) : Int) ≤ D * ((commonL (tokSet s) (tokSet t) : Nat) : Int))) := hid rfl
  have hk1 : (tokSet s).length ≤ s.size + 1 := Nat.le_trans (setOfL_len _) (toks_len s)
  have hk2 : (tokSet t).length ≤ t.size + 1 := Nat.le_trans (setOfL_len _) (toks_len t)
  have hk3 := commonL_le (tokSet s) (tokSet t)
  generalize simT N D s t = F at *
  have hU : (tokSet s).length + (tokSet t).length - commonL (tokSet s) (tokSet t) ≤ 2147483650 := by omega
  have hC : commonL (tokSet s) (tokSet t) ≤ 1073741825 := by omega
  generalize (tokSet s).length + (tokSet t).length - commonL (tokSet s) (tokSet t) = U at *
  generalize commonL (tokSet s) (tokSet t) = C at *
  clear hk1 hk2 hk3
  go_enter Try.func30, Try.ntmps30
  go_wp2_with fail
  with_reducible refine (dist_validT N D _ h1 h2 h3).mono ?_
  rintro e w1 ⟨rfl, hb1⟩
  have k0 := cell_later hb1 (a := ⟨w.heap.size, 0, none⟩) (v := .int .i64 3) (by go_cell)
  have k2 := cell_later hb1 (a := ⟨w.heap.size, 2, none⟩) (v := .int .i64 N) (by go_cell)
  have k3 := cell_later hb1 (a := ⟨w.heap.size, 3, none⟩) (v := .int .i64 D) (by go_cell)
  have HB := hid (show Below w.heap.size w w1 by repeat' (first | (with_reducible exact Below.refl _ _) | (with_reducible assumption) | (with_reducible refine below_drewN ?_) | (with_reducible refine Below.alloc ?_ ?_ _) | (with_reducible refine Below.drew ?_) | (with_reducible refine Below.setCell ?_ ?_ _) | (with_reducible refine Below.trans ?_ (Below.mono (by with_reducible assumption) ?_)) | go_size))
  clear hb1
  go_wp2_with fail
  with_reducible refine (HTK.out _).mono ?_
  rintro e w2 ⟨rfl, hb2⟩
  have n2 := cell_later hb2 k2
  have n3 := cell_later hb2 k3
  have HB2 := hid (HB.out.trans (hb2.mono HB.out.size))
  clear hb2
  have hm1 : N * (U : Int) ≤ 1000 * 2147483650 := Int.mul_le_mul (by omega) (by omega) (by omega) (by omega)
  have hm2 : D * (C : Int) ≤ 1000 * 1073741825 := Int.mul_le_mul (by omega) (by omega) (by omega) (by omega)
  have hm3 : 0 ≤ N * (U : Int) := Int.mul_nonneg (by omega) (by omega)
  have hm4 : 0 ≤ D * (C : Int) := Int.mul_nonneg (by omega) (by omega)
  by_cases hu : U = 0
  · subst hu
    have hF : F = (s.toList == t.toList) := HS.out.trans (if_pos rfl)
    clear HS
    subst hF
    go_wp2
    go_ret
    exact ⟨rfl, HB2.out⟩
  · have hF : F = decide (N * (U : Int) ≤ D * (C : Int)) := HS.out.trans (if_neg hu)
    clear HS
    subst hF
    go_wp2
    go_ret
    exact ⟨rfl, HB2.out⟩

set_option maxHeartbeats 1000000 in
theorem ref_SimilarT (s t : ByteArray) (N D : Int) (w : World) (hs : s.size ≤ 1073741824) (ht : t.size ≤ 1073741824) (h1 : 1 ≤ N) (h2 : N ≤ D) (h3 : D ≤ 1000) :
    Calls Try.prog 11 #[.agg #[.int .i64 3, .int .i64 0, .int .i64 N, .int .i64 D], .string s, .string t] w (Ret w (.bool (simT N D s t))) := by
  have HTK := hid (fun W => ref_TokensOf s t W hs ht)
  unfold TokP at HTK
  have HS : Hid (simT N D s t = if (tokSet s).length + (tokSet t).length - commonL (tokSet s) (tokSet t) = 0 then s.toList == t.toList else decide (N * (((tokSet s).length + (tokSet t).length - commonL (tokSet s) (tokSet t) : Nat) : Int) ≤ D * ((commonL (tokSet s) (tokSet t) : Nat) : Int))) := hid rfl
  have hk1 : (tokSet s).length ≤ s.size + 1 := Nat.le_trans (setOfL_len _) (toks_len s)
  have hk2 : (tokSet t).length ≤ t.size + 1 := Nat.le_trans (setOfL_len _) (toks_len t)
  have hk3 := commonL_le (tokSet s) (tokSet t)
  generalize simT N D s t = F at *
  have hU : (tokSet s).length + (tokSet t).length - commonL (tokSet s) (tokSet t) ≤ 2147483650 := by omega
  have hC : commonL (tokSet s) (tokSet t) ≤ 1073741825 := by omega
  generalize (tokSet s).length + (tokSet t).length - commonL (tokSet s) (tokSet t) = U at *
  generalize commonL (tokSet s) (tokSet t) = C at *
  clear hk1 hk2 hk3
  go_enter Try.func11, Try.ntmps11
  go_wp2_with fail
  with_reducible refine (ref_validT N D _ h1 h2 h3).mono ?_
  rintro e w1 ⟨rfl, hb1⟩
  have k0 := cell_later hb1 (a := ⟨w.heap.size, 0, none⟩) (v := .int .i64 3) (by go_cell)
  have k2 := cell_later hb1 (a := ⟨w.heap.size, 2, none⟩) (v := .int .i64 N) (by go_cell)
  have k3 := cell_later hb1 (a := ⟨w.heap.size, 3, none⟩) (v := .int .i64 D) (by go_cell)
  have HB := hid (show Below w.heap.size w w1 by repeat' (first | (with_reducible exact Below.refl _ _) | (with_reducible assumption) | (with_reducible refine below_drewN ?_) | (with_reducible refine Below.alloc ?_ ?_ _) | (with_reducible refine Below.drew ?_) | (with_reducible refine Below.setCell ?_ ?_ _) | (with_reducible refine Below.trans ?_ (Below.mono (by with_reducible assumption) ?_)) | go_size))
  clear hb1
  go_wp2_with fail
  with_reducible refine (HTK.out _).mono ?_
  rintro e w2 ⟨rfl, hb2⟩
  have n2 := cell_later hb2 k2
  have n3 := cell_later hb2 k3
  have HB2 := hid (HB.out.trans (hb2.mono HB.out.size))
  clear hb2
  have hm1 : N * (U : Int) ≤ 1000 * 2147483650 := Int.mul_le_mul (by omega) (by omega) (by omega) (by omega)
  have hm2 : D * (C : Int) ≤ 1000 * 1073741825 := Int.mul_le_mul (by omega) (by omega) (by omega) (by omega)
  have hm3 : 0 ≤ N * (U : Int) := Int.mul_nonneg (by omega) (by omega)
  have hm4 : 0 ≤ D * (C : Int) := Int.mul_nonneg (by omega) (by omega)
  by_cases hu : U = 0
  · subst hu
    have hF : F = (s.toList == t.toList) := HS.out.trans (if_pos rfl)
    clear HS
    subst hF
    go_wp2
    go_ret
    exact ⟨rfl, HB2.out⟩
  · have hF : F = decide (N * (U : Int) ≤ D * (C : Int)) := HS.out.trans (if_neg hu)
    clear HS
    subst hF
    go_wp2
    go_ret
    exact ⟨rfl, HB2.out⟩

set_option maxHeartbeats 400000 in
theorem dist_LengthsT (N D : Int) (c : Nat) (w : World) (h1 : 1 ≤ N) (h2 : N ≤ D) (h3 : D ≤ 1000) :
    Calls Try.prog 28 #[.agg #[.int .i64 3, .int .i64 0, .int .i64 N, .int .i64 D], .int .i64 (c : Int)] w (fun e w' => e = .returned (.tuple #[.int .i64 0, .int .i64 0, .bool false]) ∧ Below w.heap.size w w') := by
  go_enter Try.func28, Try.ntmps28
  go_wp2_with fail
  with_reducible refine (dist_validT N D _ h1 h2 h3).mono ?_
  rintro e w1 ⟨rfl, hb1⟩
  have k0 := cell_later hb1 (a := ⟨w.heap.size, 0, none⟩) (v := .int .i64 3) (by go_cell)
  have HB := hid (show Below w.heap.size w w1 by repeat' (first | (with_reducible exact Below.refl _ _) | (with_reducible assumption) | (with_reducible refine below_drewN ?_) | (with_reducible refine Below.alloc ?_ ?_ _) | (with_reducible refine Below.drew ?_) | (with_reducible refine Below.setCell ?_ ?_ _) | (with_reducible refine Below.trans ?_ (Below.mono (by with_reducible assumption) ?_)) | go_size))
  clear hb1
  go_wp2
  go_ret3
  exact ⟨rfl, HB.out⟩

end Go.Proofs.Ytdncdlcfgljheaa
