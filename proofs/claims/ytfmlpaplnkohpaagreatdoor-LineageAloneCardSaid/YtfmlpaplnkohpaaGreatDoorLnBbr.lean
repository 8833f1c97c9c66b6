/- Contract of ref39.Same at equal links. -/
import Derived.Test.YtfmlpaplnkohpaaGreatDoorLnBah
import Derived.Test.YtfmlpaplnkohpaaGreatDoorLnBbf
import Derived.Test.YtfmlpaplnkohpaaGreatDoorLnBbb
import Derived.Test.YtfmlpaplnkohpaaGreatDoorLnBae
set_option linter.unusedVariables false
set_option linter.unusedSimpArgs false
namespace Go.Proofs.YtfmlpaplnkohpaaGreatDoor
open Go.RowKit
theorem rdLk_max {w : World} {S : Nat → Prop} {v : Value} {xs : List Lk} (h : RdLk w S v xs) : xs.length ≤ 9223372036854775807 := by
  obtain ⟨a, c, -, h1, h2⟩ := rdLk_len h
  unfold maxLen at h2
  omega
set_option maxRecDepth 100000 in
set_option maxHeartbeats 4000000 in
theorem ref39_Same (xs : List Lk) (u v : Value) (B : Nat) (w : World) (hu : RdLk w (· < B) u xs) (hv : RdLk w (· < B) v xs) (hB : B ≤ w.heap.size) :
    Calls Tryz.prog 35 #[u, v] w (Ret w (.bool true)) := by
  have HU := hid hu
  have HV := hid hv
  have hmx := rdLk_max hu
  obtain ⟨ua, uc, rfl, -⟩ := rdLk_len hu
  obtain ⟨va, vc, rfl, -⟩ := rdLk_len hv
  clear hu hv
  generalize hl : xs.length = L at *
  have HL := hid hl
  clear hl
  go_enter Tryz.func35, Tryz.ntmps35
  generalize hLB : Code.loop _ = LB
  go_wp2_with fail
  subst hLB
  go_loopg [14] L (fun N i wr => ∃ q : Nat, q + N = L ∧ i = .int .i64 (q : Int) ∧ Hid (Below w.heap.size w wr))
  case atStart => exact ⟨0, by omega, rfl, hid (Below.refl _ _)⟩
  case round =>
    obtain ⟨q, hq, rfl, HBW⟩ := hrel
    by_cases hp : 0 < gk
    · have hqL : q < L := by omega
      have hws := HBW.out.size
      obtain ⟨b5, o5, c5, y5, e5, hb5, hk5, h5, h5', h5''⟩ := lk_at (HU.out.keep (w' := wr) fun p (hp : p.block < B) => HBW.out.cell (p := p) (by omega)) (q := q) (by rw [HL.out]; exact hqL)
      obtain ⟨b6, o6, c6, y6, e6, hb6, hk6, h6, h6', h6''⟩ := lk_at (HV.out.keep (w' := wr) fun p (hp : p.block < B) => HBW.out.cell (p := p) (by omega)) (q := q) (by rw [HL.out]; exact hqL)
      obtain ⟨rfl, -, rfl⟩ := Value.slice.inj e5
      obtain ⟨rfl, -, rfl⟩ := Value.slice.inj e6
      have hb5' : b5 < B := hb5
      have hb6' : b6 < B := hb6
      have HC0 := hid (fun W (hW : Below wr.heap.size wr W) => ref_SameOps y5 y6 (xs.getD q Lk.z).ops B W (hk5.keep fun p (hp : p.block < B) => hW.cell (p := p) (by omega)) (hk6.keep fun p (hp : p.block < B) => hW.cell (p := p) (by omega)) (by have := hW.size; omega))
      obtain ⟨d5, g5, rfl⟩ := rdPo_len hk5
      obtain ⟨d6, g6, rfl⟩ := rdPo_len hk6
      clear e5 e6 hk5 hk6 hb5 hb6
      generalize xs.getD q Lk.z = z at *
      obtain ⟨zs, zd, zo⟩ := z
      simp only at h5 h5' h5'' h6 h6' h6'' HC0
      generalize zo.length = zl at *
      have hq1 : (q : Int) < (L : Int) := by omega
      obtain ⟨X, hX⟩ : ∃ X, X = wr.alloc (.cells #[.int .i64 zs, .int .i64 zd, .slice d5 zl g5] 66) := ⟨_, rfl⟩
      have hbx := BoxN.new wr #[.int .i64 zs, .int .i64 zd, .slice d5 zl g5] 66
      have hsx := (Below.refl wr.heap.size wr).alloc (Nat.le_refl _) (.cells #[.int .i64 zs, .int .i64 zd, .slice d5 zl g5] 66)
      rw [← hX] at hbx hsx
      have HSX := hid hsx
      have hxw := hsx.size
      have s0 := fun p : LaterOf X => p.cell ((hsx.cell (p := ⟨b6, o6 + q * 3, none⟩) (by show b6 < _; omega)).trans h6)
      have s1 := fun p : LaterOf X => p.cell ((hsx.cell (p := ⟨b6, o6 + q * 3 + 1, none⟩) (by show b6 < _; omega)).trans h6')
      have s2 := fun p : LaterOf X => p.cell ((hsx.cell (p := ⟨b6, o6 + q * 3 + 2, none⟩) (by show b6 < _; omega)).trans h6'')
      have t0 := fun p : LaterOf X => p.cell (hbx.cell 0 rfl)
      have t1 := fun p : LaterOf X => p.cell (hbx.cell 1 rfl)
      have t2 := fun p : LaterOf X => p.cell (hbx.cell 2 rfl)
      have HC := hid (fun p : LaterOf X => later_call p (HC0.out p.W (HSX.out.trans (p.hb.mono hxw))))
      have HBX := hid (HBW.out.trans (hsx.mono hws))
      clear hbx hsx h6 h6' h6'' HC0
      go_upto_region 6 with fail
      rw [← hX]
      clear hX
      refine wp_region_later (by kernel_rfl) (by kernel_rfl) ?_
      repeat (first | go_big_quiet_step ((go_at_call 18; with_reducible exact HC.out _)) | quiet_step ((go_at_call 18; with_reducible exact HC.out _)))
      refine wpQuiet_nil ?_
      intro _ hw'
      obtain ⟨p5, hw''⟩ := hw'
      subst hw''
      have hb8 := p5.hb
      generalize p5.W = w8 at *
      have HB8 := hid (HBX.out.trans (hb8.mono HBX.out.size))
      clear hb8 p5 s0 s1 s2 t0 t1 t2 HC
      go_wp2
      go_roundg (gk - 1)
      case rel => exact ⟨q + 1, by omega, by go_num, HB8⟩
      case measure => omega
    · obtain rfl : gk = 0 := by omega
      obtain rfl : q = L := by omega
      go_wp2
      go_ret
      exact ⟨rfl, HBW.out⟩
end Go.Proofs.YtfmlpaplnkohpaaGreatDoor
