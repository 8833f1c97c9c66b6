/- Contract of posting.indexed at no columns. -/
import Derived.Test.YtabemneoobbnaaaGreatDoorOh
import Derived.Shelf.SlSortCmp.NoneTotal
namespace Go.Proofs.YtabemneoobbnaaaGreatDoor
open Go.RowKit Go.Shelf

theorem maps_own_made (w : World) : (w.alloc (.map #[] 0)).ownsMap (H := Unit) Tryz.prog 9 (rowElem (w.alloc (.map #[] 0)) 0 3 .i64) w.heap.size 0 (.map []) := World.ownsMap_made w Tryz.prog 9 _

set_option maxRecDepth 100000 in
set_option maxHeartbeats 2000000 in
theorem posting_indexed_nil (c : Nat) (w : World) :
    Calls Tryz.prog 49 #[.slice none 0 c] w (fun e w' => ∃ ev vv lv, e = .returned (.agg #[ev, vv, lv]) ∧ RdIx w' (News w w') ev vv lv (indexOf []) ∧ Below w.heap.size w w') := by
  have hmm := @run_makeMap Tryz.prog
  have HSO : Hid (∀ W, Calls Tryz.prog 89 #[.slice none 0 c, .func (.func 90) #[] #[]] W fun e w' => e = .returned (.tuple #[]) ∧ w' = W) := hid (fun W => AnyF.slices_SortFunc_none Tryz.sortSets none c (.func (.func 90) #[] #[]) W)
  have HB2 : Hid (Below w.heap.size w ((w.alloc (.cells #[.slice none 0 0, .slice none 0 0, .slice none 0 0] 40)).alloc (.cells #[.slice none 0 0, .slice none 0 0, .slice none 0 0] 40))) := hid (by have := Below.refl w.heap.size w; repeat' (first | (with_reducible exact Below.refl _ _) | (with_reducible assumption) | (with_reducible refine below_drewN ?_) | (with_reducible refine Below.alloc ?_ ?_ _) | (with_reducible refine Below.drew ?_) | (with_reducible refine Below.setCell ?_ ?_ _) | (with_reducible refine Below.trans ?_ (Below.mono (by with_reducible assumption) ?_)) | go_size))
  have HX0 := hid (BoxN.new (w.alloc (.cells #[.slice none 0 0, .slice none 0 0, .slice none 0 0] 40)) #[.slice none 0 0, .slice none 0 0, .slice none 0 0] 40)
  have HY0 := hid ((BoxN.new w #[.slice none 0 0, .slice none 0 0, .slice none 0 0] 40).alloc (.cells #[.slice none 0 0, .slice none 0 0, .slice none 0 0] 40))
  rw [World.size_alloc] at HX0
  go_enter Tryz.func49, Tryz.ntmps49
  generalize hLA : Code.loop _ = LA
  generalize hLB : Code.loop _ = LB
  go_wp2_with fail
  with_reducible refine (HSO.out _).mono ?_
  generalize (w.alloc (.cells #[.slice none 0 0, .slice none 0 0, .slice none 0 0] 40)).alloc (.cells #[.slice none 0 0, .slice none 0 0, .slice none 0 0] 40) = W2 at *
  rintro e w2 ⟨rfl, rfl⟩
  obtain ⟨w2, rfl⟩ : ∃ W, W = w2 := ⟨_, rfl⟩
  have HOM := hid (maps_own_made w2)
  have HB3 := hid (HB2.out.alloc HB2.out.size (.map #[] 0))
  have HX3 := hid (HX0.out.alloc (.map #[] 0))
  have HY3 := hid (HY0.out.alloc (.map #[] 0))
  have HSOR := hid (lib_Sorted w2.heap.size 0 _ _ (w2.alloc (.map #[] 0)) HOM.out (by simp [Go.Maps.size]))
  rw [World.size_alloc w2] at HSOR
  have HKS := hid (fun ss hp => keys_sorted (F := fun _ => []) GrpOk.start HOM.out [] (by simp) (ss := ss) hp)
  have HB4 := hid (HB3.out.alloc HB3.out.size (.cells #[.map (some w2.heap.size)] 141))
  have HX4 := hid (HX3.out.alloc (.cells #[.map (some w2.heap.size)] 141))
  have HY4 := hid (HY3.out.alloc (.cells #[.map (some w2.heap.size)] 141))
  clear HOM
  go_wp2_with fail
  subst hLA
  refine wp_loop_rounds 1 ?_
  rw [rounds_succ]
  go_wp2_with (first | (go_at_call 91; refine (lib_Keys _ _).mono ?_; rintro e w5 ⟨rfl, rfl⟩) | fail)
  with_reducible refine HSOR.out.mono ?_
  generalize hW5 : (w2.alloc (.map #[] 0)).alloc (.cells #[.map (some w2.heap.size)] 141) = W5 at *
  clear hW5
  rintro e w6 ⟨v, ss, rfl, hp6, hown6, hb6⟩
  have hss := HKS.out ss hp6
  rw [setOf_nil] at hss
  have hsl : ss.length = 0 := by have := congrArg List.length hss; simpa using this
  rw [hss, hsl] at hown6
  have HB6 := hid (HB4.out.trans (hb6.mono HB4.out.size))
  have HX6 := hid (HX4.out.below hb6 HX4.out.lt)
  have HY6 := hid (HY4.out.below hb6 HY4.out.lt)
  have HO6 := hid (own_base (base' := w.heap.size) hown6 HB4.out.size)
  clear hss hsl hp6 hown6 hb6
  obtain ⟨sa, sc, rfl⟩ := own_slice HO6.out
  have x1 := HX6.out.cell 1 rfl
  have f1 := HX6.out.frozen 1
  have HX7 := hid (HX6.out.set 1 (.slice sa 0 sc))
  have HY7 := hid (HY6.out.other (p := ⟨w.heap.size + 1, 1, none⟩) (by show w.heap.size + 1 ≠ w.heap.size; omega) (.slice sa 0 sc))
  have y0 := HX7.out.cell 0 rfl
  have y1 := HX7.out.cell 1 rfl
  have y2 := HX7.out.cell 2 rfl
  have z0 := HY7.out.cell 0 rfl
  have z1 := HY7.out.cell 1 rfl
  have z2 := HY7.out.cell 2 rfl
  have g0 := HY7.out.frozen 0
  have g1 := HY7.out.frozen 1
  have g2 := HY7.out.frozen 2
  go_wp2_with fail
  subst hLB
  refine wp_loop_rounds 1 ?_
  rw [rounds_succ]
  go_wp2_with fail
  have hq := ((HY7.out.set 0 (.slice none 0 0)).set 1 (.slice sa 0 sc)).set 2 (.slice none 0 0)
  have q0 := hq.cell 0 rfl
  have q1 := hq.cell 1 rfl
  have q2 := hq.cell 2 rfl
  clear x1 f1 y0 y1 y2 z0 z1 z2 g0 g1 g2 hq
  refine bodyPost_ret (v := .agg #[.slice none 0 0, .slice sa 0 sc, .slice none 0 0]) (by simp [results, Tryz.results49, go_sem, q0, q1, q2]; done) rfl ⟨_, _, _, rfl, ?_, ?_⟩
  · have e1 : indexOf [] = ⟨[], [], []⟩ := by simp [indexOf, entsOf, allOf, setOf_nil]
    rw [e1]
    obtain ⟨a', c', e2, h2, h3, -⟩ := inS_of_own (xs := []) HO6.out
    exact ⟨InK.nil, ⟨a', c', e2, h2, h3, fun h => absurd h (by simp)⟩, fun _ => .bool false, InK.nil, fun i hi => absurd hi (by simp)⟩
  · have h0 : w.heap.size ≤ w.heap.size := Nat.le_refl _
    have h1 : w.heap.size ≤ w.heap.size + 1 := by omega
    exact (((HB6.out.setCell h1 _).setCell h0 _).setCell h0 _).setCell h0 _

end Go.Proofs.YtabemneoobbnaaaGreatDoor
