/- Contract of the sanity check of law 18. -/
import Derived.Test.YtabemneoobbnaaaGreatDoorOh
namespace Go.Proofs.YtabemneoobbnaaaGreatDoor
open Go.RowKit

def sA : ByteArray := ⟨#[97]⟩
def sB : ByteArray := ⟨#[98]⟩
def saneC : List Cv := [((1, 0), [⟨#[97]⟩, ⟨#[98]⟩]), ((2, 0), [⟨#[98]⟩])]
theorem sane_vals : setOfL (allOf saneC) = [⟨#[97]⟩, ⟨#[98]⟩] := by decide +kernel
theorem sane_la : listOfV saneC ⟨#[97]⟩ = [0] := by decide +kernel
theorem sane_lb : listOfV saneC ⟨#[98]⟩ = [0, 1] := by decide +kernel
theorem sane_ix : indexOf saneC = ⟨[((1, 0), 2), ((2, 0), 1)], [⟨#[97]⟩, ⟨#[98]⟩], [[0], [0, 1]]⟩ := by
  unfold indexOf
  rw [sane_vals]
  simp only [List.map_cons, List.map_nil, sane_la, sane_lb]
  rfl
theorem sane_idx : Lib.idxOfS [⟨#[97]⟩, ⟨#[98]⟩] ⟨#[98]⟩ = ((1 : Nat) : Int) := by decide +kernel
theorem sane_up : saneC.Pairwise (fun a b => rlt (refZ a) (refZ b) = true) := by decide +kernel
theorem sane_ab : Asc [⟨#[97]⟩, ⟨#[98]⟩] := by unfold Asc; decide +kernel
theorem sane_b : Asc [⟨#[98]⟩] := by unfold Asc; decide +kernel
theorem inS_two (w : World) (x y : ByteArray) (t : TypeId) : InS (w.alloc (.cells #[.string x, .string y] t)) (· < (w.alloc (.cells #[.string x, .string y] t)).heap.size) (.slice (some ⟨w.heap.size, 0, none⟩) 2 2) [x, y] := by
  refine ⟨_, _, rfl, Nat.le_refl _, by decide, fun _ => ⟨_, _, rfl, by simp, fun i hi j hj => ?_⟩⟩
  obtain rfl : j = 0 := by omega
  rcases (show i = 0 ∨ i = 1 by have : i < 2 := hi; omega) with rfl | rfl
  · exact World.cell?_alloc_at _ _ _ _ rfl
  · exact World.cell?_alloc_at _ _ _ _ rfl
theorem inS_one (w : World) (x : ByteArray) (t : TypeId) : InS (w.alloc (.cells #[.string x] t)) (· < (w.alloc (.cells #[.string x] t)).heap.size) (.slice (some ⟨w.heap.size, 0, none⟩) 1 1) [x] := by
  refine ⟨_, _, rfl, Nat.le_refl _, by decide, fun _ => ⟨_, _, rfl, by simp, fun i hi j hj => ?_⟩⟩
  obtain rfl : j = 0 := by omega
  obtain rfl : i = 0 := by have : i < 1 := hi; omega
  exact World.cell?_alloc_at _ _ _ _ rfl
theorem str_small {x : ByteArray} (h : x.size ≤ 1000) : x.size ≤ maxLen := by unfold maxLen; omega

set_option maxRecDepth 100000 in
set_option maxHeartbeats 4000000 in
theorem law18_sane (w : World) : Calls Tryz.prog 16 #[] w (Ret w (.bool true)) := by
  have HA1 : Hid (∀ W : World, Calls Tryz.prog 35 #[.agg #[.slice none 0 0, .slice none 0 0, .slice none 0 0], .agg #[.int .i64 1, .int .i64 0], .slice (some ⟨W.heap.size, 0, none⟩) 2 2] (W.alloc (.cells #[.string ⟨#[97]⟩, .string ⟨#[98]⟩] 9)) (IxP (W.alloc (.cells #[.string ⟨#[97]⟩, .string ⟨#[98]⟩] 9)) [((1, 0), [⟨#[97]⟩, ⟨#[98]⟩])] okV)) :=
    hid (fun W => posting_Add [] cvsOk_nil strOk_nil _ _ _ _ _ (1, 0) [⟨#[97]⟩, ⟨#[98]⟩] _ (rdIx_nil _ _) (Nat.le_refl _) (inS_two W _ _ _) sane_ab (by decide) (fun s hs => str_small (by simp at hs; rcases hs with rfl | rfl <;> decide)) (by decide) (by decide) (by simp) (by decide))
  have HA2 : Hid (∀ (ev vv lv : Value) (b : Nat) (W : World), b = W.heap.size → RdIx (W.alloc (.cells #[.string ⟨#[98]⟩] 9)) (· < (W.alloc (.cells #[.string ⟨#[98]⟩] 9)).heap.size) ev vv lv (indexOf [((1, 0), [⟨#[97]⟩, ⟨#[98]⟩])]) → CvsOk [((1, 0), [⟨#[97]⟩, ⟨#[98]⟩])] → StrOk [((1, 0), [⟨#[97]⟩, ⟨#[98]⟩])] →
      Calls Tryz.prog 35 #[.agg #[ev, vv, lv], .agg #[.int .i64 2, .int .i64 0], .slice (some ⟨b, 0, none⟩) 1 1] (W.alloc (.cells #[.string ⟨#[98]⟩] 9)) (IxP (W.alloc (.cells #[.string ⟨#[98]⟩] 9)) saneC okV)) :=
    hid (fun ev vv lv b W hbW hx hok hs => by subst hbW; exact posting_Add [((1, 0), [⟨#[97]⟩, ⟨#[98]⟩])] hok hs _ _ _ _ _ (2, 0) [⟨#[98]⟩] _ hx (Nat.le_refl _) (inS_one W _ _) sane_b (by decide) (fun s hs => str_small (by simp at hs; subst hs; decide)) (by decide) (by decide) (by intro c hc; simp at hc; subst hc; decide) (by decide))
  go_enter Tryz.func16, Tryz.ntmps16
  go_wp2_with fail
  with_reducible refine (posting_New _).mono ?_
  rintro e w1 ⟨rfl, hb1⟩
  have HB1 := hid hb1
  clear hb1
  go_wp2_with fail
  with_reducible refine (HA1.out _).mono ?_
  have HB1' : Hid (Below w.heap.size w (w1.alloc (.cells #[.string ⟨#[97]⟩, .string ⟨#[98]⟩] 9))) := hid (HB1.out.alloc HB1.out.size _)
  generalize w1.alloc (.cells #[.string ⟨#[97]⟩, .string ⟨#[98]⟩] 9) = W1 at *
  rintro e w2 ⟨cs1, ev, vv, lv, hok1, hst1, hp1, rfl, hrx1, hb2⟩
  obtain rfl := List.perm_singleton.1 hp1
  have HOK1 := hid hok1
  have HST1 := hid hst1
  have HRX1 := hid hrx1
  have HB2 := hid (HB1'.out.trans (hb2.mono HB1'.out.size))
  clear hok1 hst1 hp1 hb2
  obtain ⟨ea, ec, rfl, -⟩ := hrx1.ents
  obtain ⟨va, vc, rfl, -⟩ := hrx1.vals
  obtain ⟨lf, ⟨la, lc, rfl, -⟩, -⟩ := hrx1.lists
  clear hrx1
  generalize (indexOf [((1, 0), [⟨#[97]⟩, ⟨#[98]⟩])]).ents.length = n1 at *
  generalize (indexOf [((1, 0), [⟨#[97]⟩, ⟨#[98]⟩])]).vals.length = n2 at *
  generalize (indexOf [((1, 0), [⟨#[97]⟩, ⟨#[98]⟩])]).lists.length = n3 at *
  have HX2 := hid (BoxN.new w2 #[.slice ea n1 ec, .slice va n2 vc, .slice la n3 lc] 40)
  have HB3 : Hid (Below w.heap.size w (w2.alloc (.cells #[.slice ea n1 ec, .slice va n2 vc, .slice la n3 lc] 40))) := hid (HB2.out.alloc HB2.out.size _)
  have HRX2 := hid (HRX1.out.keep (w' := w2.alloc (.cells #[.slice ea n1 ec, .slice va n2 vc, .slice la n3 lc] 40)) fun p hp => World.cell?_alloc_lt _ _ _ hp.2)
  have hz2 : w2.heap.size < (w2.alloc (.cells #[.slice ea n1 ec, .slice va n2 vc, .slice la n3 lc] 40)).heap.size := by simp
  have x0 := HX2.out.cell 0 rfl
  have x1 := HX2.out.cell 1 rfl
  have x2 := HX2.out.cell 2 rfl
  clear HRX1
  go_wp2_with fail
  have HRX3 : Hid (RdIx ((w2.alloc (.cells #[.slice ea n1 ec, .slice va n2 vc, .slice la n3 lc] 40)).alloc (.cells #[.string ⟨#[98]⟩] 9)) (· < ((w2.alloc (.cells #[.slice ea n1 ec, .slice va n2 vc, .slice la n3 lc] 40)).alloc (.cells #[.string ⟨#[98]⟩] 9)).heap.size) (.slice ea n1 ec) (.slice va n2 vc) (.slice la n3 lc) (indexOf [((1, 0), [⟨#[97]⟩, ⟨#[98]⟩])])) :=
    hid ((HRX2.out.keep fun p hp => World.cell?_alloc_lt _ _ _ (Nat.lt_trans (show p.block < w2.heap.size from And.right hp) hz2)).more fun k hk => by
      have h : k < w2.heap.size := And.right hk
      rw [World.size_alloc, World.size_alloc]
      omega)
  with_reducible refine (HA2.out _ _ _ _ _ (by simp) HRX3.out HOK1.out HST1.out).mono ?_
  clear x0 x1 x2
  have HX3 := hid (HX2.out.alloc (.cells #[.string ⟨#[98]⟩] 9))
  have HB4 : Hid (Below w.heap.size w ((w2.alloc (.cells #[.slice ea n1 ec, .slice va n2 vc, .slice la n3 lc] 40)).alloc (.cells #[.string ⟨#[98]⟩] 9))) := hid (HB3.out.alloc HB3.out.size _)
  generalize (w2.alloc (.cells #[.slice ea n1 ec, .slice va n2 vc, .slice la n3 lc] 40)).alloc (.cells #[.string ⟨#[98]⟩] 9) = W4 at *
  rintro e w5 ⟨cs2, ev2, vv2, lv2, hok2, hst2, hp2, rfl, hrx2, hb5⟩
  obtain rfl : cs2 = saneC := cvs_unique hok2.up sane_up hp2
  have hx5 := HX3.out.below hb5 HX3.out.lt
  have HB5 := hid (HB4.out.trans (hb5.mono HB4.out.size))
  have HOK2 := hid hok2
  have hz5 := hb5.size
  obtain ⟨ea2, ec2, rfl, -⟩ := hrx2.ents
  obtain ⟨va2, vc2, rfl, -⟩ := hrx2.vals
  obtain ⟨lf2, ⟨la2, lc2, rfl, -⟩, -⟩ := hrx2.lists
  have HRX5 := hid (hrx2.more (S' := fun k => k < w5.heap.size ∧ k ≠ w2.heap.size) fun k hk => ⟨hk.2, by have := HX3.out.lt; have := hk.1; omega⟩)
  clear hok2 hst2 hp2 hrx2 hb5 HX3 HA1 HA2 HRX2 HX2
  rw [sane_ix] at HRX5 ⊢
  simp only [List.length_cons, List.length_nil] at HRX5 ⊢
  have x0 := hx5.cell 0 rfl
  have x1 := hx5.cell 1 rfl
  have x2 := hx5.cell 2 rfl
  have f0 := hx5.frozen 0
  have f1 := hx5.frozen 1
  have f2 := hx5.frozen 2
  have HX5 := hid hx5
  clear hx5
  go_wp2_with fail
  clear x0 x1 x2 f0 f1 f2
  have HX6 := hid (((HX5.out.set 0 (.slice ea2 2 ec2)).set 1 (.slice va2 2 vc2)).set 2 (.slice la2 2 lc2))
  have HRX6 : Hid (RdIx (((w5.setCell ⟨w2.heap.size, 0, none⟩ (.slice ea2 2 ec2)).setCell ⟨w2.heap.size, 1, none⟩ (.slice va2 2 vc2)).setCell ⟨w2.heap.size, 2, none⟩ (.slice la2 2 lc2)) (· < w5.heap.size) (.slice ea2 2 ec2) (.slice va2 2 vc2) (.slice la2 2 lc2) (indexOf saneC)) := hid (by
    rw [sane_ix]
    exact (HRX5.out.keep fun p hp => by
      have hne := hp.2
      rw [World.cell?_setCell_other _ _ _ _ (by intro e; subst e; exact hne rfl), World.cell?_setCell_other _ _ _ _ (by intro e; subst e; exact hne rfl), World.cell?_setCell_other _ _ _ _ (by intro e; subst e; exact hne rfl)]).more fun k hk => hk.1)
  have HZ6 : Hid ((((w5.setCell ⟨w2.heap.size, 0, none⟩ (.slice ea2 2 ec2)).setCell ⟨w2.heap.size, 1, none⟩ (.slice va2 2 vc2)).setCell ⟨w2.heap.size, 2, none⟩ (.slice la2 2 lc2)).heap.size = w5.heap.size) := hid (by simp)
  have hwz : w.heap.size ≤ w2.heap.size := HB2.out.size
  have HB6 : Hid (Below w.heap.size w (((w5.setCell ⟨w2.heap.size, 0, none⟩ (.slice ea2 2 ec2)).setCell ⟨w2.heap.size, 1, none⟩ (.slice va2 2 vc2)).setCell ⟨w2.heap.size, 2, none⟩ (.slice la2 2 lc2))) := hid (((HB5.out.setCell hwz _).setCell hwz _).setCell hwz _)
  generalize ((w5.setCell ⟨w2.heap.size, 0, none⟩ (.slice ea2 2 ec2)).setCell ⟨w2.heap.size, 1, none⟩ (.slice va2 2 vc2)).setCell ⟨w2.heap.size, 2, none⟩ (.slice la2 2 lc2) = W6 at *
  have HLS : Hid (∀ W, Below W6.heap.size W6 W → Calls Tryz.prog 26 #[.agg #[.slice ea2 2 ec2, .slice va2 2 vc2, .slice la2 2 lc2], .string ⟨#[98]⟩] W (fun e w' => ∃ a c, e = .returned (.tuple #[.slice (some ⟨a, 0, none⟩) 2 c, .bool true]) ∧ w'.ownsRow W.heap.size 3 1 (.slice (some ⟨a, 0, none⟩) 2 c) 2 [.int .i64 0, .int .i64 1] ∧ Below W.heap.size W w')) := hid (fun W hW => by
    have h := posting_List (indexOf saneC) _ _ _ w5.heap.size W (HRX6.out.keep fun p (hp : p.block < w5.heap.size) => hW.cell (p := p) (by have := HZ6.out; omega)) (by have := hW.size; have := HZ6.out; omega) ⟨#[98]⟩ 1 (by rw [sane_ix]; exact sane_idx) (by rw [sane_ix]; decide) (by rw [sane_ix]; decide) (by rw [sane_ix]; decide) (by rw [sane_ix]; decide)
    rw [sane_ix] at h
    exact h)
  have HEN : Hid (∀ W, Below W6.heap.size W6 W → Calls Tryz.prog 27 #[.agg #[.slice ea2 2 ec2, .slice va2 2 vc2, .slice la2 2 lc2]] W (Ret W (.int .i64 3))) := hid (fun W hW => by
    have h := posting_Entries (indexOf saneC) _ _ _ w5.heap.size W (HRX6.out.keep fun p (hp : p.block < w5.heap.size) => hW.cell (p := p) (by have := HZ6.out; omega)) (by have := hW.size; have := HZ6.out; omega) (by rw [sane_ix]; decide)
    rw [sane_ix] at h
    exact h)
  have HCO : Hid (∀ W, Below W6.heap.size W6 W → Calls Tryz.prog 24 #[.agg #[.slice ea2 2 ec2, .slice va2 2 vc2, .slice la2 2 lc2], .agg #[.int .i64 2, .int .i64 0]] W (Ret W (.int .i64 1))) := hid (fun W hW => by
    have h := posting_Column (indexOf saneC) _ _ _ 2 0 w5.heap.size W (HRX6.out.keep fun p (hp : p.block < w5.heap.size) => hW.cell (p := p) (by have := HZ6.out; omega)) (by have := hW.size; have := HZ6.out; omega) (by rw [sane_ix]; decide)
    rw [sane_ix] at h
    exact h)
  have HVD : Hid (∀ W, Below W6.heap.size W6 W → Calls Tryz.prog 32 #[.agg #[.slice ea2 2 ec2, .slice va2 2 vc2, .slice la2 2 lc2]] W (Ret W (.bool true))) := hid (fun W hW =>
    posting_Valid saneC HOK2.out _ _ _ w5.heap.size W (HRX6.out.keep fun p (hp : p.block < w5.heap.size) => hW.cell (p := p) (by have := HZ6.out; omega)) (by have := hW.size; have := HZ6.out; omega))
  have HBB := hid (Below.refl W6.heap.size W6)
  with_reducible refine (HLS.out _ HBB.out).mono ?_
  rintro e w7 ⟨a7, c7, rfl, hown7, hb7⟩
  have HB7 := hid hb7
  have HX7 := hid (HX6.out.below hb7 HX6.out.lt)
  have l1 := hown7.cellAt 1 (by decide)
  have l1' : w7.cell? ⟨a7, 1, none⟩ = some (.int .i64 1) := l1
  have x0 := HX7.out.cell 0 rfl
  have x1 := HX7.out.cell 1 rfl
  have x2 := HX7.out.cell 2 rfl
  clear l1 hown7 hb7
  go_wp2_with fail
  with_reducible refine (HEN.out _ HB7.out).mono ?_
  rintro e w8 ⟨rfl, hb8⟩
  have HB8 := hid (HB7.out.trans (hb8.mono HB7.out.size))
  have HX8 := hid (HX7.out.below hb8 HX7.out.lt)
  clear x0 x1 x2 l1' hb8
  have x0 := HX8.out.cell 0 rfl
  have x1 := HX8.out.cell 1 rfl
  have x2 := HX8.out.cell 2 rfl
  go_wp2_with fail
  with_reducible refine (HCO.out _ HB8.out).mono ?_
  rintro e w9 ⟨rfl, hb9⟩
  have HB9 := hid (HB8.out.trans (hb9.mono HB8.out.size))
  have HX9 := hid (HX8.out.below hb9 HX8.out.lt)
  clear x0 x1 x2 hb9
  have x0 := HX9.out.cell 0 rfl
  have x1 := HX9.out.cell 1 rfl
  have x2 := HX9.out.cell 2 rfl
  go_wp2_with fail
  with_reducible refine (HVD.out _ HB9.out).mono ?_
  rintro e w10 ⟨rfl, hb10⟩
  have HB10 := hid (HB9.out.trans (hb10.mono HB9.out.size))
  clear x0 x1 x2 hb10
  go_wp2
  go_ret
  exact ⟨rfl, HB6.out.trans (HB10.out.mono HB6.out.size)⟩

end Go.Proofs.YtabemneoobbnaaaGreatDoor
