/- The comparison of pairs of numbers. -/
import Derived.Laws.StructEq
import Derived.ChangeKeysEq
import Derived.Test.YtdncdlcfgljheaaGm
namespace Go.Proofs.Ytdncdlcfgljheaa
open Go.RowKit

theorem neq_pair (x y x' y' : Int) (w : World) : (binOp .neq 33 (.agg #[.int .i64 x, .int .i64 y]) (.agg #[.int .i64 x', .int .i64 y'])).run Try.prog w = .ok (.bool (!(x == x' && y == y'))) w := by
  obtain ⟨i0, hi, hz0, hz1, hz2⟩ := info_parts info_int
  have hc : Try.prog.cellsOf 3 = 1 := by kernel_rfl
  have h1 := run_equalIn_array (P := Try.prog) w 9999 (t := 33) (e := 3) #[.int .i64 x, .int .i64 y] #[.int .i64 x', .int .i64 y'] Try.underlying33 hi
  rw [run_neq_struct, h1, hc]
  simp [List.range, List.range.loop, Op.eqItems, go_sem]
  by_cases h1 : x = x' <;> by_cases h2 : y = y' <;> simp [h1, h2]

set_option maxHeartbeats 1000000 in
theorem ref_SamePairs (va vb : Value) (ps : List (Nat × Nat)) (B : Nat) (w : World) (ha : RdPr w B va ps) (hb : RdPr w B vb ps) :
    Calls Try.prog 14 #[va, vb] w (Quiet w (.bool true)) := by
  obtain ⟨a, c, rfl, hc, hm, hx⟩ := ha
  obtain ⟨b, d, rfl, hd, hn, hy⟩ := hb
  generalize ps.length = n at *
  have HX := hid hx
  have HY := hid hy
  clear hx hy
  unfold maxLen at hm hn
  have HN := hid neq_pair
  go_enter Try.func14, Try.ntmps14
  go_wp2
  go_loopw [13] (fun i w' => ∃ k : Nat, k ≤ n ∧ i = .int .i64 (k : Int) ∧ ∃ m, w' = w.drewN m) (fun i _ => n - (intOf i).toNat)
  case atStart => exact ⟨0, by omega, rfl, 0, rfl⟩
  case round =>
    obtain ⟨k, hk, rfl, m, rfl⟩ := hrel
    by_cases hlt : k < n
    · obtain ⟨b1, o1, rfl, hb1, hc1⟩ := HX.out (by omega)
      obtain ⟨b2, o2, rfl, hb2, hc2⟩ := HY.out (by omega)
      obtain ⟨p0, p1⟩ := hc1 k hlt
      obtain ⟨q0, q1⟩ := hc2 k hlt
      have HW : Hid (wrap64 ((k : Int) + 1) = (k : Int) + 1) := hid (by unfold wrap64; omega)
      have hne := fun W => HN.out ((ps.getD k (0, 0)).1 : Int) ((ps.getD k (0, 0)).2 : Int) ((ps.getD k (0, 0)).1 : Int) ((ps.getD k (0, 0)).2 : Int) W
      simp only [beq_self_eq_true, Bool.and_self, Bool.not_true] at hne
      clear hc1 hc2
      generalize ((ps.getD k (0, 0)).1 : Int) = x at *
      generalize ((ps.getD k (0, 0)).2 : Int) = y at *
      go_wp2
      go_quiet (fail)
      go_wp2
      go_roundw
      case rel => exact ⟨k + 1, by omega, by go_num, _, rfl⟩
      case measure =>
        simp [intOf, HW.out]
        omega
    · obtain rfl : k = n := by omega
      go_wp2
      go_ret
      exact ⟨rfl, _, rfl⟩

end Go.Proofs.Ytdncdlcfgljheaa
