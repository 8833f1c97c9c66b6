/- Contracts of num.Of and of the reference's Part and Same (at equal fractions). -/
import Derived.Test.YtfcccldofaleoaaGreatDoorFf
import Derived.Test.YtfcccldofaleoaaGreatDoorRm
import Derived.Test.YtfcccldofaleoaaGreatDoorBase
namespace Go.Proofs.YtfcccldofaleoaaGreatDoor.Fr
open Go.RowKit

set_option maxRecDepth 100000 in
set_option maxHeartbeats 4000000 in
theorem num_Of (n d : Nat) (w : World) (hn : n < 9223372036854775808) (hd : 0 < d) (hd2 : d < 4294967296) :
    Calls Tryz.prog 53 #[.int .i64 (n : Int), .int .i64 (d : Int)] w (GivesF w false (n / Nat.gcd n d) (d / Nat.gcd n d)) := by
  have HOF := hid (fun W => frac_Of1 n d W hn hd hd2)
  generalize n / Nat.gcd n d = p at *
  generalize d / Nat.gcd n d = q at *
  go_enter Tryz.func53, Tryz.ntmps53
  go_wp2_with fail
  refine (HOF.out _).mono ?_
  rintro e w3 ⟨a3, c3, a4, c4, rfl, hN, hb3⟩
  have HN := hid hN
  have HB3 := hid hb3
  have hz3 := hb3.size
  have m0 := cell_later hb3 (a := ⟨w.heap.size, 0, none⟩) (v := .bool false) (by go_cell)
  have m1 := cell_later hb3 (a := ⟨w.heap.size, 1, none⟩) (v := .slice none 0 0) (by go_cell)
  have m2 := cell_later hb3 (a := ⟨w.heap.size, 2, none⟩) (v := .bool false) (by go_cell)
  have m3 := cell_later hb3 (a := ⟨w.heap.size, 3, none⟩) (v := .slice none 0 0) (by go_cell)
  have fm0 := frozen_later hb3 (a := ⟨w.heap.size, 0, none⟩) (v := .bool false) (by go_cell) (by simp [go_sem])
  have fm1 := frozen_later hb3 (a := ⟨w.heap.size, 1, none⟩) (v := .slice none 0 0) (by go_cell) (by simp [go_sem])
  have fm2 := frozen_later hb3 (a := ⟨w.heap.size, 2, none⟩) (v := .bool false) (by go_cell) (by simp [go_sem])
  have fm3 := frozen_later hb3 (a := ⟨w.heap.size, 3, none⟩) (v := .slice none 0 0) (by go_cell) (by simp [go_sem])
  clear hN hb3
  simp at hz3
  have hlt : w.heap.size < w3.heap.size := by omega
  have hne : w.heap.size ≠ w3.heap.size := by omega
  go_wp2
  refine bodyPost_ret (by simp [results, Tryz.results53, go_sem, m0, m1, m2, m3, hne, hlt]; rfl) rfl ?_
  exact ⟨a3, c3, a4, c4, by first | rfl | simp, (((((HN.out.setCell (by simp)).setCell (by simp)).setCell (by simp)).setCell (by simp)).kept ((Below.refl _ _).alloc (Nat.le_refl _) _)).mono (by simp), by have h3 := HB3.out; repeat' (first | (with_reducible exact Below.refl _ _) | (with_reducible assumption) | (with_reducible refine below_drewN ?_) | (with_reducible refine Below.alloc ?_ ?_ _) | (with_reducible refine Below.drew ?_) | (with_reducible refine Below.setCell ?_ ?_ _) | (with_reducible refine Below.trans ?_ (Below.mono (by with_reducible assumption) ?_)) | go_size)⟩

set_option maxRecDepth 100000 in
set_option maxHeartbeats 4000000 in
theorem ref_Part (n d : Nat) (w : World) (hn : n < 9223372036854775808) (hd : 0 < d) (hd2 : d < 9223372036854775808) :
    Calls Tryz.prog 36 #[.int .i64 (n : Int), .int .i64 (d : Int)] w (GivesF w false (n / Nat.gcd n d) (d / Nat.gcd n d)) := by
  have HOF := hid (fun W => ref_Of n d W hn hd hd2)
  generalize n / Nat.gcd n d = p at *
  generalize d / Nat.gcd n d = q at *
  go_enter Tryz.func36, Tryz.ntmps36
  go_wp2_with fail
  refine (HOF.out _).mono ?_
  rintro e w3 ⟨a3, c3, a4, c4, rfl, hN, hb3⟩
  have HN := hid hN
  have HB3 := hid hb3
  have hz3 := hb3.size
  have m0 := cell_later hb3 (a := ⟨w.heap.size, 0, none⟩) (v := .bool false) (by go_cell)
  have m1 := cell_later hb3 (a := ⟨w.heap.size, 1, none⟩) (v := .slice none 0 0) (by go_cell)
  have m2 := cell_later hb3 (a := ⟨w.heap.size, 2, none⟩) (v := .bool false) (by go_cell)
  have m3 := cell_later hb3 (a := ⟨w.heap.size, 3, none⟩) (v := .slice none 0 0) (by go_cell)
  have fm0 := frozen_later hb3 (a := ⟨w.heap.size, 0, none⟩) (v := .bool false) (by go_cell) (by simp [go_sem])
  have fm1 := frozen_later hb3 (a := ⟨w.heap.size, 1, none⟩) (v := .slice none 0 0) (by go_cell) (by simp [go_sem])
  have fm2 := frozen_later hb3 (a := ⟨w.heap.size, 2, none⟩) (v := .bool false) (by go_cell) (by simp [go_sem])
  have fm3 := frozen_later hb3 (a := ⟨w.heap.size, 3, none⟩) (v := .slice none 0 0) (by go_cell) (by simp [go_sem])
  clear hN hb3
  simp at hz3
  have hlt : w.heap.size < w3.heap.size := by omega
  have hne : w.heap.size ≠ w3.heap.size := by omega
  go_wp2
  refine bodyPost_ret (by simp [results, Tryz.results36, go_sem, m0, m1, m2, m3, hne, hlt]; rfl) rfl ?_
  exact ⟨a3, c3, a4, c4, by first | rfl | simp, (((((HN.out.setCell (by simp)).setCell (by simp)).setCell (by simp)).setCell (by simp)).kept ((Below.refl _ _).alloc (Nat.le_refl _) _)).mono (by simp), by have h3 := HB3.out; repeat' (first | (with_reducible exact Below.refl _ _) | (with_reducible assumption) | (with_reducible refine below_drewN ?_) | (with_reducible refine Below.alloc ?_ ?_ _) | (with_reducible refine Below.drew ?_) | (with_reducible refine Below.setCell ?_ ?_ _) | (with_reducible refine Below.trans ?_ (Below.mono (by with_reducible assumption) ?_)) | go_size)⟩

set_option maxRecDepth 100000 in
set_option maxHeartbeats 1000000 in
theorem ref_sameBig (u v : Value) (xs : List Nat) (w : World) (hx : Rd32 w u xs) (hy : Rd32 w v xs) :
    Calls Tryz.prog 54 #[.agg #[.bool false, u], .agg #[.bool false, v]] w (Ret w (.bool true)) := by
  obtain ⟨a, c, rfl, hc, hm, hxr, hxc⟩ := hx
  obtain ⟨a', c', rfl, hc', hm', hyr, hyc⟩ := hy
  have HXC := hid hxc
  have HYC := hid hyc
  have HXR := hid hxr
  clear hxc hyc hxr hyr
  generalize hn : xs.length = n at *
  clear hn
  unfold maxLen at hm hm'
  have HB0 := hid (((Below.refl w.heap.size w).alloc (Nat.le_refl _) (.cells #[.bool false, .slice a n c] 47)).alloc (by simp) (.cells #[.bool false, .slice a' n c'] 47))
  have HX1 := hid ((BoxN.new w #[.bool false, .slice a n c] 47).alloc (.cells #[.bool false, .slice a' n c'] 47))
  have hx2 := BoxN.new (w.alloc (.cells #[.bool false, .slice a n c] 47)) #[.bool false, .slice a' n c'] 47
  rw [World.size_alloc] at hx2
  have HX2 := hid hx2
  clear hx2
  go_enter Tryz.func54, Tryz.ntmps54
  generalize hLA : Code.loop _ = LA
  go_wp2_with fail
  subst hLA
  generalize (w.alloc (.cells #[.bool false, .slice a n c] 47)).alloc (.cells #[.bool false, .slice a' n c'] 47) = W0 at *
  have d0 := HX2.out.cell 0 rfl
  have d1 := HX2.out.cell 1 rfl
  have c0 := HX1.out.cell 0 rfl
  have c1 := HX1.out.cell 1 rfl
  go_loopg [24] n (fun N i wr => ∃ q : Nat, q + N = n ∧ i = .int .i64 (q : Int) ∧ wr = W0)
  case atStart => exact ⟨0, by omega, rfl, rfl⟩
  case round =>
    obtain ⟨q, hq, rfl, rfl⟩ := hrel
    by_cases hp : 0 < gk
    · obtain ⟨b, o, rfl, hb, h1⟩ := HXC.out (by omega)
      obtain ⟨b', o', rfl, hb', h2⟩ := HYC.out (by omega)
      have k1 := (HB0.out.cell (p := ⟨b, o + q, none⟩) hb).trans (h1 q (by omega))
      have k2 := (HB0.out.cell (p := ⟨b', o' + q, none⟩) hb').trans (h2 q (by omega))
      clear h1 h2
      generalize xs.getD q 0 = x at *
      go_wp2_with fail
      go_roundg (gk - 1)
      case rel => exact ⟨q + 1, by omega, by go_num, rfl⟩
      case measure => omega
    · obtain rfl : q = n := by omega
      go_wp2_with fail
      go_ret
      exact ⟨rfl, HB0.out⟩

set_option maxRecDepth 100000 in
set_option maxHeartbeats 1000000 in
theorem ref_Same (u v : Value) (p q : Nat) (w : World) (hu : RdF w u false p q) (hv : RdF w v false p q) :
    Calls Tryz.prog 22 #[u, v] w (Ret w (.bool true)) := by
  obtain ⟨a1, c1, b1, d1, rfl, ha1, hb1⟩ := hu
  obtain ⟨a2, c2, b2, d2, rfl, ha2, hb2⟩ := hv
  have HS1 := hid (fun W (hW : Below w.heap.size w W) => ref_sameBig _ _ (dig p) W (ha1.kept hW) (ha2.kept hW))
  have HS2 := hid (fun W (hW : Below w.heap.size w W) => ref_sameBig _ _ (dig q) W (hb1.kept hW) (hb2.kept hW))
  clear ha1 ha2 hb1 hb2
  generalize (dig p).length = n at *
  generalize (dig q).length = m at *
  have HB0 := hid (((Below.refl w.heap.size w).alloc (Nat.le_refl _) (.cells #[.bool false, .slice a1 n c1, .bool false, .slice b1 m d1] 49)).alloc (by simp) (.cells #[.bool false, .slice a2 n c2, .bool false, .slice b2 m d2] 49))
  have HX1 := hid ((BoxN.new w #[.bool false, .slice a1 n c1, .bool false, .slice b1 m d1] 49).alloc (.cells #[.bool false, .slice a2 n c2, .bool false, .slice b2 m d2] 49))
  have hx2 := BoxN.new (w.alloc (.cells #[.bool false, .slice a1 n c1, .bool false, .slice b1 m d1] 49)) #[.bool false, .slice a2 n c2, .bool false, .slice b2 m d2] 49
  rw [World.size_alloc] at hx2
  have HX2 := hid hx2
  have k0 := HX1.out.cell 0 rfl
  have k1 := HX1.out.cell 1 rfl
  have k2 := HX1.out.cell 2 rfl
  have k3 := HX1.out.cell 3 rfl
  have j0 := HX2.out.cell 0 rfl
  have j1 := HX2.out.cell 1 rfl
  have j2 := HX2.out.cell 2 rfl
  have j3 := HX2.out.cell 3 rfl
  clear hx2
  go_enter Tryz.func22, Tryz.ntmps22
  go_wp2_with fail
  generalize (w.alloc (.cells #[.bool false, .slice a1 n c1, .bool false, .slice b1 m d1] 49)).alloc (.cells #[.bool false, .slice a2 n c2, .bool false, .slice b2 m d2] 49) = W0 at *
  with_reducible refine (HS1.out _ HB0.out).mono ?_
  clear k0 k1 k2 k3 j0 j1 j2 j3
  rintro e w1 ⟨rfl, hb1⟩
  have HB1 := hid (HB0.out.trans (hb1.mono HB0.out.size))
  have k0 := (HX1.out.below hb1 HX1.out.lt).cell 2 rfl
  have k1 := (HX1.out.below hb1 HX1.out.lt).cell 3 rfl
  have j0 := (HX2.out.below hb1 HX2.out.lt).cell 2 rfl
  have j1 := (HX2.out.below hb1 HX2.out.lt).cell 3 rfl
  clear hb1
  go_wp2_with fail
  with_reducible refine (HS2.out _ HB1.out).mono ?_
  rintro e w2 ⟨rfl, hb2⟩
  have HB2 := hid (HB1.out.trans (hb2.mono HB1.out.size))
  clear hb2 k0 k1 j0 j1
  go_wp2_with fail
  go_ret
  exact ⟨rfl, HB2.out⟩

end Go.Proofs.YtfcccldofaleoaaGreatDoor.Fr
