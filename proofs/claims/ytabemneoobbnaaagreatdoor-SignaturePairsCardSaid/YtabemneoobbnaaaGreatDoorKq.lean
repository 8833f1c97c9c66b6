/- Plain: what the ranks of two sets have in common. What the closure of signature.Pairs does. The order of pairs of references: contracts of signature.order and of the comparing closure of Pairs. -/
import Derived.Test.YtabemneoobbnaaaGreatDoorKl
import Derived.Shelf.SlSortCmp.WholeK
namespace Go.Proofs.YtabemneoobbnaaaGreatDoor
open Go.RowKit Go.Shelf

/-- how many values of one set are in another one -/
def comN (X Y : List ByteArray) : Nat := (X.filter fun x => hasL Y x).length
theorem rank_map {O X : List ByteArray} (h : ∀ x ∈ X, x ∈ O) : X.filterMap (idxF O) = X.map fun x => (idxF O x).getD 0 := by
  induction X with
  | nil => rfl
  | cons x X ih =>
    rw [List.filterMap_cons, List.map_cons, ih fun y hy => h y (by simp [hy])]
    cases e : idxF O x with
    | none => exact absurd (h x (by simp)) (idxF_none e)
    | some i => rfl
theorem idx_at {O : List ByteArray} {x : ByteArray} (h : x ∈ O) : (idxF O x).getD 0 < O.length ∧ O.getD ((idxF O x).getD 0) ⟨#[]⟩ = x := by
  cases e : idxF O x with
  | none => exact absurd h (idxF_none e)
  | some i => exact idxF_some e
theorem ov_rank {O X Y : List ByteArray} (hX : ∀ x ∈ X, x ∈ O) (hY : ∀ x ∈ Y, x ∈ O) (hn : X.Nodup) : ovL (rankL O X) (rankL O Y) = comN X Y := by
  have inj : ∀ x y, x ∈ O → y ∈ O → (idxF O x).getD 0 = (idxF O y).getD 0 → x = y := fun x y hx hy e => by
    rw [← (idx_at hx).2, ← (idx_at hy).2, e]
  have hnd : (X.map fun x => (idxF O x).getD 0).Nodup := by
    rw [List.Nodup, List.pairwise_map]
    exact List.Pairwise.imp_of_mem (fun {a b} ha hb hne e => hne (inj a b (hX a ha) (hX b hb) e)) hn
  have hp : (rankL O X).Perm (X.map fun x => (idxF O x).getD 0) := by
    unfold rankL
    rw [rank_map hX]
    exact (List.perm_ext_iff_of_nodup (up_nodup (upL_up _)) hnd).2 fun x => upL_mem
  unfold ovL comN
  rw [(hp.filter _).length_eq, List.filter_map, List.length_map]
  congr 1
  apply List.filter_congr
  intro x hx
  simp only [Function.comp]
  rw [Bool.eq_iff_iff, decide_eq_true_iff, hasL_iff]
  unfold rankL
  rw [upL_mem, rank_map hY, List.mem_map]
  constructor
  · rintro ⟨y, hy, e⟩
    rwa [← inj y x (hY y hy) (hX x hx) e]
  · intro h; exact ⟨x, h, rfl⟩
theorem rank_len {O X : List ByteArray} (hX : ∀ x ∈ X, x ∈ O) : (rankL O X).length ≤ X.length := by
  unfold rankL
  rw [rank_map hX]
  exact Nat.le_trans (upL_len _) (by simp)

/-! ### Pairs of references in a row -/
abbrev Rp := (Int × Nat) × (Int × Nat)
def four (a b c d : Value) : Nat → Value
  | 0 => a
  | 1 => b
  | 2 => c
  | _ => d
def rpF (L : List Rp) (i : Nat) : Nat → Value := four (.int .i64 (L.getD i ((0, 0), (0, 0))).1.1) (.int .i64 ((L.getD i ((0, 0), (0, 0))).1.2 : Int)) (.int .i64 (L.getD i ((0, 0), (0, 0))).2.1) (.int .i64 ((L.getD i ((0, 0), (0, 0))).2.2 : Int))
theorem rp_push (L : List Rp) (x : Rp) : flatK 4 L.length (rpF L) ++ [.int .i64 x.1.1, .int .i64 (x.1.2 : Int), .int .i64 x.2.1, .int .i64 (x.2.2 : Int)] = flatK 4 (L ++ [x]).length (rpF (L ++ [x])) := by
  rw [List.length_append, List.length_singleton]
  refine flat_push (fun i hi j hj => ?_) ?_
  · simp [rpF, List.getD, List.getElem?_append_left hi]
  · simp [rpF, List.getD, List.range_succ, four]
theorem info_rp : (Tryz.prog.info? 72).map (fun i => (i.zero, i.size, i.bytes)) = some (some (.agg #[.int .i64 0, .int .i64 0, .int .i64 0, .int .i64 0]), 4, 32) := by kernel_rfl
/-- the pairs with enough in common -/
def outL (cs : List Cv) (need : Nat) (l : List (Nat × Nat)) : List Rp :=
  (l.filter fun p => decide (need ≤ comN (cs.getD p.1 Cv.z).2 (cs.getD p.2 Cv.z).2)).map fun p => ((cs.getD p.1 Cv.z).1, (cs.getD p.2 Cv.z).1)
theorem outL_snoc (cs : List Cv) (need : Nat) (l : List (Nat × Nat)) (k i : Nat) : outL cs need (l ++ [(k, i)]) = if need ≤ comN (cs.getD k Cv.z).2 (cs.getD i Cv.z).2 then outL cs need l ++ [((cs.getD k Cv.z).1, (cs.getD i Cv.z).1)] else outL cs need l := by
  unfold outL
  rw [List.filter_append, List.map_append]
  have e : ([(k, i)] : List (Nat × Nat)).filter (fun p => decide (need ≤ comN (cs.getD p.1 Cv.z).2 (cs.getD p.2 Cv.z).2)) = if need ≤ comN (cs.getD k Cv.z).2 (cs.getD i Cv.z).2 then [(k, i)] else [] := by
    rw [List.filter_cons, List.filter_nil]
    by_cases h : need ≤ comN (cs.getD k Cv.z).2 (cs.getD i Cv.z).2
    · rw [if_pos h, if_pos (by simpa using h)]
    · rw [if_neg h, if_neg (by simpa using h)]
  rw [e]
  by_cases h : need ≤ comN (cs.getD k Cv.z).2 (cs.getD i Cv.z).2
  · rw [if_pos h, if_pos h]; rfl
  · rw [if_neg h, if_neg h]; simp
theorem outL_len (cs : List Cv) (need : Nat) (l : List (Nat × Nat)) : (outL cs need l).length ≤ l.length := by
  unfold outL
  rw [List.length_map]
  exact List.length_filter_le _ _
theorem own_of_block {w w' : World} {base : Nat} {e : TypeId} {k n : Nat} {v : Value} {L : List Value} (h : w.ownsRow base e k v n L) (hb : ∀ b, v.ownBlock = some b → w'.heap[b]? = w.heap[b]?) : w'.ownsRow base e k v n L := by
  refine ⟨h.1, ?_⟩
  rcases h.2 with h1 | ⟨g, cap, cur, rfl, h2, h3, rest⟩
  · exact .inl h1
  · exact .inr ⟨g, cap, cur, rfl, h2, (hb g rfl).trans h3, rest⟩

/-- what the closure of Pairs keeps: the row of pairs, in the variable's box -/
structure JP (base nb ob need : Nat) (cs : List Cv) (l : List (Nat × Nat)) (Z : Nat → Prop) (W : World) : Prop where
  want : W.cell? ⟨nb, 0, none⟩ = some (.int .i64 (need : Int))
  row : ∃ a c, BoxN W ob 67 #[.slice a (outL cs need l).length c] ∧ W.ownsRow base 72 4 (.slice a (outL cs need l).length c) (outL cs need l).length (flatK 4 (outL cs need l).length (rpF (outL cs need l))) ∧
    (∀ b, (Value.slice a (outL cs need l).length c).ownBlock = some b → Z b ∧ b ≠ ob)
  box : Z ob
  lt : ∀ b, Z b → base ≤ b ∧ b < W.heap.size

end Go.Proofs.YtabemneoobbnaaaGreatDoor

namespace Go.Proofs.YtabemneoobbnaaaGreatDoor
open Go.Shelf Go.RowKit Go.Lib Go.Sort

set_option maxHeartbeats 2000000 in
theorem table_LessR (a1 a2 b1 b2 : Int) (w : World) : Calls Tryz.prog 67 #[.agg #[.int .i64 a1, .int .i64 a2], .agg #[.int .i64 b1, .int .i64 b2]] w (GrowsT w (.bool (rlt (a1, a2) (b1, b2)))) := by
  have HR := hid (rlt_or (a1, a2) (b1, b2))
  generalize rlt (a1, a2) (b1, b2) = r at *
  go_enter Tryz.func67, Tryz.ntmps67
  go_wp2_with fail
  go_region_held3 (fun w' => w'.cell? ⟨w.heap.size, 0, none⟩ = some (.int .i64 a1) ∧ w'.cell? ⟨w.heap.size, 1, none⟩ = some (.int .i64 a2) ∧ w'.cell? ⟨w.heap.size + 1, 0, none⟩ = some (.int .i64 b1) ∧ w'.cell? ⟨w.heap.size + 1, 1, none⟩ = some (.int .i64 b2))
    (first | go_keep)
    (first
      | (go_at_call 43; go_must (((with_reducible refine (lib_Compare _ _ _).mono ?_); rintro e w5 ⟨rfl, rfl⟩)))
      | (go_at_call 62; go_must (((with_reducible refine (lib_Or2 (cmpZ a1 b1) (cmpZ a2 b2) _ _ _ (by go_cell) (by go_cell)).mono ?_); rintro e w5 ⟨rfl, rfl⟩))))
  all_goals
    go_wp2
    go_ret
    refine ⟨ret_bool (by rw [HR.out]), ?_⟩
    simp only [alloc_eq_grow, grow_grow, grow_drewT, grow_drewNT, drew_NT, World.drewN_drewN]
    exact ⟨_, _, rfl⟩

/-- how two references stand -/
def rcmp (a b : Int × Int) : Int := if rlt a b = true then -1 else if (decide (a.1 = b.1) && decide (a.2 = b.2)) = true then 0 else 1

set_option maxHeartbeats 2000000 in
theorem sig_order (a1 a2 b1 b2 : Int) (w : World) :
    Calls Tryz.prog 63 #[.agg #[.int .i64 a1, .int .i64 a2], .agg #[.int .i64 b1, .int .i64 b2]] w (GrowsT w (.int .i64 (rcmp (a1, a2) (b1, b2)))) := by
  have HRC : Hid (rcmp (a1, a2) (b1, b2) = if rlt (a1, a2) (b1, b2) = true then -1 else if (decide (a1 = b1) && decide (a2 = b2)) = true then 0 else 1) := hid rfl
  have HLE := hid (fun W => table_LessR a1 a2 b1 b2 W)
  generalize rcmp (a1, a2) (b1, b2) = R at *
  generalize rlt (a1, a2) (b1, b2) = l at *
  go_enter Tryz.func63, Tryz.ntmps63
  have h1 := BoxN.new w #[.int .i64 a1, .int .i64 a2] 47
  have h2 := BoxN.new (w.alloc (.cells #[.int .i64 a1, .int .i64 a2] 47)) #[.int .i64 b1, .int .i64 b2] 47
  have h3 := h1.alloc (.cells #[.int .i64 b1, .int .i64 b2] 47)
  rw [World.size_alloc] at h2
  have hz : ((w.alloc (.cells #[.int .i64 a1, .int .i64 a2] 47)).alloc (.cells #[.int .i64 b1, .int .i64 b2] 47)).heap.size = w.heap.size + 2 := by simp
  have c0 := h3.cell 0 rfl
  have c1 := h3.cell 1 rfl
  have c2 := h2.cell 0 rfl
  have c3 := h2.cell 1 rfl
  clear h1 h2 h3
  go_wp2_with fail
  have HW := hid (show ∃ q os, ((w.alloc (.cells #[.int .i64 a1, .int .i64 a2] 47)).alloc (.cells #[.int .i64 b1, .int .i64 b2] 47)) = grow (w.drewN q) os from ⟨0, _, by simp only [alloc_eq_grow, grow_grow]; rfl⟩)
  generalize ((w.alloc (.cells #[.int .i64 a1, .int .i64 a2] 47)).alloc (.cells #[.int .i64 b1, .int .i64 b2] 47)) = W2 at *
  have HD : Hid (∀ w', (∃ q os, w' = grow (W2.drewN q) os) → w'.cell? ⟨w.heap.size, 0, none⟩ = some (.int .i64 a1) ∧ w'.cell? ⟨w.heap.size, 1, none⟩ = some (.int .i64 a2) ∧ w'.cell? ⟨w.heap.size + 1, 0, none⟩ = some (.int .i64 b1) ∧ w'.cell? ⟨w.heap.size + 1, 1, none⟩ = some (.int .i64 b2)) := hid (by
    rintro _ ⟨q, os, rfl⟩
    exact ⟨(cell?_grow (W2.drewN q) os _ (by show w.heap.size < W2.heap.size; omega)).trans c0, (cell?_grow (W2.drewN q) os _ (by show w.heap.size < W2.heap.size; omega)).trans c1, (cell?_grow (W2.drewN q) os _ (by show w.heap.size + 1 < W2.heap.size; omega)).trans c2, (cell?_grow (W2.drewN q) os _ (by show w.heap.size + 1 < W2.heap.size; omega)).trans c3⟩)
  with_reducible refine (HLE.out _).mono ?_
  rintro e w5 ⟨rfl, hw5⟩
  obtain ⟨d0, d1, d2, d3⟩ := HD.out w5 hw5
  have HG : Hid (∃ q os, w5 = grow (w.drewN q) os) := hid (by
    obtain ⟨q, os, rfl⟩ := hw5
    obtain ⟨q1, os1, e1⟩ := HW.out
    exact ⟨q1 + q, os1 ++ os, by rw [e1, grow_drewNT, grow_grow, World.drewN_drewN]⟩)
  clear hw5 c0 c1 c2 c3
  go_wp2
  all_goals
    go_ret
    refine ⟨?_, ?_⟩
    · rw [HRC.out]; simp [*]
    · obtain ⟨q, os, e1⟩ := HG.out
      first
        | exact ⟨q, os, e1⟩
        | (refine ⟨q + 1, os, ?_⟩; rw [e1, drew_NT, grow_drewNT, World.drewN_drewN])


abbrev zR (r : Int × Nat) : Int × Int := (r.1, (r.2 : Int))
def encP (x : Rp) : List Value := [.int .i64 x.1.1, .int .i64 (x.1.2 : Int), .int .i64 x.2.1, .int .i64 (x.2.2 : Int)]
def cfP (x y : Rp) : Int := orZ (rcmp (zR x.1) (zR y.1)) (rcmp (zR x.2) (zR y.2))
theorem cfP_neg (x y : Rp) : Go.Proofs.ltOf cfP x y = true ↔ (x.1.1 < y.1.1 ∨ (x.1.1 = y.1.1 ∧ (x.1.2 < y.1.2 ∨ (x.1.2 = y.1.2 ∧ (x.2.1 < y.2.1 ∨ (x.2.1 = y.2.1 ∧ x.2.2 < y.2.2)))))) := by
  have h : ∀ a b : Int × Nat, rcmp (zR a) (zR b) = if a.1 < b.1 ∨ (a.1 = b.1 ∧ a.2 < b.2) then -1 else if a.1 = b.1 ∧ a.2 = b.2 then 0 else 1 := fun a b => by
    unfold rcmp rlt
    by_cases h1 : a.1 < b.1
    · simp [h1]
    · by_cases h2 : a.1 = b.1
      · by_cases h3 : a.2 < b.2
        · simp [h2, h3]
        · by_cases h4 : a.2 = b.2
          · simp [h2, h3, h4]
          · have h5 : ¬ ((a.2 : Int) = (b.2 : Int)) := by omega
            simp [h2, h3, h4, h5]
      · simp [h1, h2]
  have e1 := h x.1 y.1
  have e2 := h x.2 y.2
  unfold Go.Proofs.ltOf cfP orZ
  rw [decide_eq_true_iff]
  by_cases h1 : x.1.1 < y.1.1 ∨ (x.1.1 = y.1.1 ∧ x.1.2 < y.1.2)
  · rw [if_pos h1] at e1
    rw [e1]
    constructor
    · intro _; omega
    · intro _; first | decide | simp
  · rw [if_neg h1] at e1
    by_cases h2 : x.1.1 = y.1.1 ∧ x.1.2 = y.1.2
    · rw [if_pos h2] at e1
      rw [e1]
      by_cases h3 : x.2.1 < y.2.1 ∨ (x.2.1 = y.2.1 ∧ x.2.2 < y.2.2)
      · rw [if_pos h3] at e2
        rw [e2]
        constructor
        · intro _; omega
        · intro _; first | decide | simp
      · rw [if_neg h3] at e2
        by_cases h4 : x.2.1 = y.2.1 ∧ x.2.2 = y.2.2
        · rw [if_pos h4] at e2
          rw [e2]
          constructor
          · intro h; exact absurd h (by first | decide | simp)
          · intro _; omega
        · rw [if_neg h4] at e2
          rw [e2]
          constructor
          · intro h; exact absurd h (by first | decide | simp)
          · intro _; omega
    · rw [if_neg h2] at e1
      rw [e1]
      constructor
      · intro h; exact absurd h (by first | decide | simp)
      · intro _; omega
theorem swoP : SWO (Go.Proofs.ltOf cfP) := by
  refine ⟨fun x => ?_, fun x y z h1 h2 => ?_, fun x y z h1 h2 => ?_⟩
  · rw [Bool.eq_false_iff, Ne, cfP_neg]; omega
  · rw [cfP_neg] at *; omega
  · rw [Bool.eq_false_iff, Ne, cfP_neg] at *; omega

set_option maxHeartbeats 4000000 in
theorem pairs_cmp (x y : Rp) (w : World) : Calls Tryz.prog 61 #[.agg (encP x).toArray, .agg (encP y).toArray] w (GrowsT w (.int .i64 (cfP x y))) := by
  have HZ : Hid (cfP x y = orZ (rcmp (x.1.1, (x.1.2 : Int)) (y.1.1, (y.1.2 : Int))) (rcmp (x.2.1, (x.2.2 : Int)) (y.2.1, (y.2.2 : Int)))) := hid rfl
  have HO1 := hid (fun W => sig_order x.1.1 (x.1.2 : Int) y.1.1 (y.1.2 : Int) W)
  have HO2 := hid (fun W => sig_order x.2.1 (x.2.2 : Int) y.2.1 (y.2.2 : Int) W)
  generalize cfP x y = z at *
  show Calls Tryz.prog 61 #[.agg #[.int .i64 x.1.1, .int .i64 (x.1.2 : Int), .int .i64 x.2.1, .int .i64 (x.2.2 : Int)], .agg #[.int .i64 y.1.1, .int .i64 (y.1.2 : Int), .int .i64 y.2.1, .int .i64 (y.2.2 : Int)]] w (GrowsT w (.int .i64 z))
  generalize rcmp (x.1.1, (x.1.2 : Int)) (y.1.1, (y.1.2 : Int)) = z1 at *
  generalize rcmp (x.2.1, (x.2.2 : Int)) (y.2.1, (y.2.2 : Int)) = z2 at *
  generalize x.1.1 = a1 at *
  generalize (x.1.2 : Int) = a2 at *
  generalize x.2.1 = a3 at *
  generalize (x.2.2 : Int) = a4 at *
  generalize y.1.1 = b1 at *
  generalize (y.1.2 : Int) = b2 at *
  generalize y.2.1 = b3 at *
  generalize (y.2.2 : Int) = b4 at *
  have hx1 := (BoxN.new w #[.int .i64 a1, .int .i64 a2, .int .i64 a3, .int .i64 a4] 72).alloc (.cells #[.int .i64 b1, .int .i64 b2, .int .i64 b3, .int .i64 b4] 72)
  have hx2 := BoxN.new (w.alloc (.cells #[.int .i64 a1, .int .i64 a2, .int .i64 a3, .int .i64 a4] 72)) #[.int .i64 b1, .int .i64 b2, .int .i64 b3, .int .i64 b4] 72
  rw [World.size_alloc] at hx2
  have hz : ((w.alloc (.cells #[.int .i64 a1, .int .i64 a2, .int .i64 a3, .int .i64 a4] 72)).alloc (.cells #[.int .i64 b1, .int .i64 b2, .int .i64 b3, .int .i64 b4] 72)).heap.size = w.heap.size + 2 := by simp
  have HW := hid (show ∃ q os, ((w.alloc (.cells #[.int .i64 a1, .int .i64 a2, .int .i64 a3, .int .i64 a4] 72)).alloc (.cells #[.int .i64 b1, .int .i64 b2, .int .i64 b3, .int .i64 b4] 72)) = grow (w.drewN q) os from ⟨0, _, by simp only [alloc_eq_grow, grow_grow]; rfl⟩)
  have c0 := hx1.cell 0 rfl
  have c1 := hx1.cell 1 rfl
  have c2 := hx1.cell 2 rfl
  have c3 := hx1.cell 3 rfl
  have d0 := hx2.cell 0 rfl
  have d1 := hx2.cell 1 rfl
  have d2 := hx2.cell 2 rfl
  have d3 := hx2.cell 3 rfl
  clear hx1 hx2
  go_enter Tryz.func61, Tryz.ntmps61
  go_upto_region 1 with fail
  generalize (w.alloc (.cells #[.int .i64 a1, .int .i64 a2, .int .i64 a3, .int .i64 a4] 72)).alloc (.cells #[.int .i64 b1, .int .i64 b2, .int .i64 b3, .int .i64 b4] 72) = W2 at *
  have HD : Hid (∀ w', (∃ q os, w' = grow (W2.drewN q) os) → w'.cell? ⟨w.heap.size, 0, none⟩ = some (.int .i64 a1) ∧ w'.cell? ⟨w.heap.size, 1, none⟩ = some (.int .i64 a2) ∧ w'.cell? ⟨w.heap.size, 2, none⟩ = some (.int .i64 a3) ∧ w'.cell? ⟨w.heap.size, 3, none⟩ = some (.int .i64 a4) ∧ w'.cell? ⟨w.heap.size + 1, 0, none⟩ = some (.int .i64 b1) ∧ w'.cell? ⟨w.heap.size + 1, 1, none⟩ = some (.int .i64 b2) ∧ w'.cell? ⟨w.heap.size + 1, 2, none⟩ = some (.int .i64 b3) ∧ w'.cell? ⟨w.heap.size + 1, 3, none⟩ = some (.int .i64 b4)) := hid (by
    rintro _ ⟨q, os, rfl⟩
    have h0 : w.heap.size < W2.heap.size := by omega
    have h1 : w.heap.size + 1 < W2.heap.size := by omega
    exact ⟨(cell?_grow (W2.drewN q) os _ h0).trans c0, (cell?_grow (W2.drewN q) os _ h0).trans c1, (cell?_grow (W2.drewN q) os _ h0).trans c2, (cell?_grow (W2.drewN q) os _ h0).trans c3, (cell?_grow (W2.drewN q) os _ h1).trans d0, (cell?_grow (W2.drewN q) os _ h1).trans d1, (cell?_grow (W2.drewN q) os _ h1).trans d2, (cell?_grow (W2.drewN q) os _ h1).trans d3⟩)
  go_region_held3 (fun w' => w'.cell? ⟨w.heap.size, 0, none⟩ = some (.int .i64 a1) ∧ w'.cell? ⟨w.heap.size, 1, none⟩ = some (.int .i64 a2) ∧ w'.cell? ⟨w.heap.size, 2, none⟩ = some (.int .i64 a3) ∧ w'.cell? ⟨w.heap.size, 3, none⟩ = some (.int .i64 a4) ∧ w'.cell? ⟨w.heap.size + 1, 0, none⟩ = some (.int .i64 b1) ∧ w'.cell? ⟨w.heap.size + 1, 1, none⟩ = some (.int .i64 b2) ∧ w'.cell? ⟨w.heap.size + 1, 2, none⟩ = some (.int .i64 b3) ∧ w'.cell? ⟨w.heap.size + 1, 3, none⟩ = some (.int .i64 b4))
    (first | exact HDT.out | exact HDS.out | exact HDV.out | go_keep)
    (first
      | (go_at_call 63; go_must (first | ((with_reducible refine (HO1.out _).mono ?_); rintro e ws ⟨rfl, hgs⟩; have HGS : Hid (∃ q os, ws = grow (W2.drewN q) os) := hid (by obtain ⟨q, os, h⟩ := hgs; rw [h]; simp only [alloc_eq_grow, grow_grow, grow_drewT, grow_drewNT, drew_NT, World.drewN_drewN]; exact ⟨_, _, rfl⟩); have HDS := hid (HD.out ws HGS.out); clear hgs) | ((with_reducible refine (HO2.out _).mono ?_); rintro e wt ⟨rfl, hgt⟩; have HGT : Hid (∃ q os, wt = grow (W2.drewN q) os) := hid (by obtain ⟨q0, os0, h0⟩ := HGS.out; obtain ⟨q, os, h⟩ := hgt; rw [h, h0]; simp only [alloc_eq_grow, grow_grow, grow_drewT, grow_drewNT, drew_NT, World.drewN_drewN]; exact ⟨_, _, rfl⟩); have HDT := hid (HD.out wt HGT.out); clear hgt)))
      | (go_at_call 62; go_must (((with_reducible refine (lib_Or2 z1 z2 _ _ _ (by go_cell) (by go_cell)).mono ?_); rintro e w5 ⟨rfl, rfl⟩))))
  all_goals
    go_wp2
    go_ret
    refine ⟨ret_int (by rw [HZ.out]), ?_⟩
    obtain ⟨q0, os0, h0⟩ := HGT.out
    obtain ⟨q1', os1, h1⟩ := HW.out
    rw [h0, h1]
    simp only [alloc_eq_grow, grow_grow, grow_drewT, grow_drewNT, drew_NT, World.drewN_drewN]
    exact ⟨_, _, rfl⟩

end Go.Proofs.YtabemneoobbnaaaGreatDoor
