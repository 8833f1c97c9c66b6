/- Contracts of slices.Clone at cells, columns, operations, lists of operations, numbers. Plain: a stable insertion sort step by step; rows as lists of cells; tables with few rows. Contract of explain.rows: the numbers of the rows. -/
import Derived.Test.YtaajpliifdlokaaGreatDoorLnNrah
import Derived.Test.YtaajpliifdlokaaGreatDoorLnNrac
import Derived.Deep.OwnRows
import Derived.Test.YtaajpliifdlokaaGreatDoorLnNraf
set_option linter.unusedVariables false
set_option linter.unusedSimpArgs false
namespace Go.Proofs.YtaajpliifdlokaaGreatDoor
open Go.RowKit
theorem flat_cells {w w' : World} {k n b o : Nat} {f : Nat → Nat → Value} (hk : 0 < k) (h : ∀ i, i < n → ∀ j, j < k → w.cell? ⟨b, o + i * k + j, none⟩ = some (f i j)) (hw : ∀ p : Addr, p.block = b → w'.cell? p = w.cell? p) :
    ∀ j u, (flatK k n f)[j]? = some u → w'.cell? ((⟨b, o, none⟩ : Addr).add j) = some u := by
  intro j u hu
  have hj : j < n * k := by
    have := (List.getElem?_eq_some_iff.1 hu).1
    rw [flatK_len] at this
    exact this
  have hd : j / k < n := (Nat.div_lt_iff_lt_mul hk).2 hj
  have hm := Nat.mod_lt j hk
  have he : j / k * k + j % k = j := by rw [Nat.mul_comm]; exact Nat.div_add_mod j k
  have h1 := flatK_at (f := f) hd hm
  rw [he, hu] at h1
  obtain rfl := Option.some.inj h1
  rw [Addr.add_lit, hw _ rfl, ← h _ hd _ hm, show o + j / k * k + j % k = o + j by omega]
theorem flat_one {k n : Nat} {f : Nat → Nat → Value} (hk : 0 < k) (h : ∀ i, i < n → ∀ j, j < k → (f i j).oneCell' = true) : ∀ u ∈ flatK k n f, u.oneCell' = true := by
  intro u hu
  unfold flatK at hu
  obtain ⟨i, hi, hu⟩ := List.mem_flatMap.1 hu
  obtain ⟨j, hj, rfl⟩ := List.mem_map.1 hu
  exact h i (List.mem_range.1 hi) j (List.mem_range.1 hj)
theorem flat_zero (k : Nat) (f : Nat → Nat → Value) : flatK k 0 f = [] := rfl
def GivesF (w : World) (e : TypeId) (k n : Nat) (f : Nat → Nat → Value) (en : Ending) (w' : World) : Prop :=
  ∃ a c, en = .returned (.slice a n c) ∧ w'.ownsRow w.heap.size e k (.slice a n c) n (flatK k n f) ∧ Below w.heap.size w w'
theorem wpList_append_none {P : Program} {w : World} {ops : Array Oper} {rest : List Oper} {o : Oper} {a : Act} {Q : Exit → Act → World → Prop} (hgd : o.guard = none) (s x : Operand) (t tx : TypeId)
    (ho : o.op = .call { callee := .builtin .append, args := #[s, x], argTypes := #[t, tx] }) (e e' : TypeId) (i : TypeInfo) (ht : P.underlying t = some (.slice e)) (hk : P.underlying tx = some (.slice e')) (hi : P.info? e = some i)
    (base : Option Addr) (n cap : Nat) (hs : a.eval s = .slice base n cap) (hn : n ≤ cap) (ao : Option Addr) (m c : Nat) (hm : m = 0) (hx : a.eval x = .slice ao m c)
    (h : wpList P ops Q rest (a.put o.dst (.slice base n cap)) w) : wpList P ops Q (o :: rest) a w := by
  subst hm
  refine wpList_plain hgd fun _ hK => ?_
  have hr : (Builtin.append_ #[t, tx] o.type #[.slice base n cap, .slice ao 0 c]).run P w = .ok (.slice base n cap) w := by
    rw [append_types w ht hk]; exact run_append_empty w ht hi base n cap c hn ao
  unfold Oper.wp execOp
  simp only [ho, resolve, invoke, builtin, Sem.run_bind, Sem.run_pure, Result.andThen_ok, List.map_toArray, List.map_cons, List.map_nil, hs, hx, hr]
  exact hK _ _ h
theorem info_int0 : (Tryz.prog.info? 3).map (fun i => (i.zero, i.size, i.bytes)) = some (some (.int .i64 0), 1, 8) := by kernel_rfl
set_option maxRecDepth 100000 in
set_option maxHeartbeats 1000000 in
theorem clone_cells (S : Nat → Prop) (v : Value) (n : Nat) (f : Nat → Nat → Value) (w : World) (hv : InK 2 w S v n f) (hS : ∀ b, S b → b < w.heap.size) (h1 : ∀ i, i < n → ∀ j, j < 2 → (f i j).oneCell' = true) (hn : n ≤ 1099511627776) :
  Calls Tryz.prog 238 #[v] w (GivesF w 84 2 n f) := by
 obtain ⟨a, c, rfl, hc, hm, hr⟩ := hv
 obtain ⟨i0, hi, hz0, hz1, hz2⟩ := info_parts info_cell
 unfold maxLen at hm
 by_cases hp : 0 < n
 ·obtain ⟨b, o, rfl, hb, hcell⟩ := hr hp
  have hbw := hS b hb
  have hnil : ∀ W : World, (binOp .eql 53 (.slice (some ⟨b, o, none⟩) n c) (.slice none 0 0)).run Tryz.prog W = .ok (.bool false) W := fun W => Lib.run_eql_slice_nil W _ 84 (some ⟨b, o, none⟩) n c 0 0 Tryz.underlying53
  have HC := hid (flat_cells (w' := w.alloc (.cells #[] 84)) (by omega) hcell (fun p hp => World.cell?_alloc_lt _ _ _ (by omega)))
  have H1 := hid (flat_one (k := 2) (by omega) h1)
  have HL := hid (flatK_len 2 n f)
  obtain ⟨L, hLf⟩ : ∃ L, L = flatK 2 n f := ⟨_, rfl⟩
  rw [← hLf] at HC H1 HL
  have HLF := hid hLf
  clear hLf
  clear hr hcell h1
  go_enter Tryz.func238, Tryz.ntmps238
  go_wp2_with (at_builtin; refine wpList_append_form _ rfl _ _ 53 53 rfl w.heap.size 84 84 i0 (.agg #[.bool false, .string ⟨#[]⟩]) 2 24 Tryz.underlying53 Tryz.underlying53 hi hz0 hz1 hz2 rfl (by decide) (.slice (some ⟨w.heap.size, 0, none⟩) 0 0) 0 [] rfl (World.ownsRow_made w #[] 0 (Nat.le_refl _) (Nat.zero_le _) rfl) (some ⟨b, o, none⟩) n c L rfl HL.out (fun _ => ⟨_, rfl, HC.out⟩) H1.out (by omega) (by unfold maxLen; omega) (by omega) (by simp) ?_; intro g7 cap7 w7 hown7 hg7 hat7 hlt7; have HOWN7 := hid hown7; have HG7 := hid hg7; clear hown7 hg7 hat7)
  simp only [Nat.zero_add, List.nil_append] at HOWN7
  go_wp2
  go_ret
  refine ⟨_, _, rfl, by rw [← HLF.out]; exact HOWN7.out, ((Below.refl _ w).alloc (Nat.le_refl _) _).grown HG7.out (by simp) (fun k hk => ?_)⟩
  simp [Value.ownBlock] at hk
  omega
 ·obtain rfl : n = 0 := by omega
  clear hr hp h1
  go_enter Tryz.func238, Tryz.ntmps238
  cases a with
  | none =>
   have hnil : ∀ W : World, (binOp .eql 53 (.slice none 0 c) (.slice none 0 0)).run Tryz.prog W = .ok (.bool true) W := fun W => Lib.run_eql_slice_nil W _ 84 none 0 c 0 0 Tryz.underlying53
   go_wp2
   go_ret
   exact ⟨none, 0, rfl, World.ownsRow_nil _ _ _ _, Below.refl _ _⟩
  | some p =>
   have hnil : ∀ W : World, (binOp .eql 53 (.slice (some p) 0 c) (.slice none 0 0)).run Tryz.prog W = .ok (.bool false) W := fun W => Lib.run_eql_slice_nil W _ 84 (some p) 0 c 0 0 Tryz.underlying53
   have HM := hid (World.ownsRow_made (base := w.heap.size) (e := 84) (size := 2) w #[] 0 (Nat.le_refl _) (Nat.zero_le _) rfl)
   go_wp2_with (at_builtin; refine wpList_append_none rfl _ _ 53 53 rfl 84 84 i0 Tryz.underlying53 Tryz.underlying53 hi _ 0 0 rfl (Nat.le_refl _) (some p) 0 c rfl rfl ?_)
   go_ret
   exact ⟨some ⟨w.heap.size, 0, none⟩, 0, rfl, HM.out, (Below.refl _ _).alloc (Nat.le_refl _) _⟩
set_option maxRecDepth 100000 in
set_option maxHeartbeats 1000000 in
theorem clone_cols (S : Nat → Prop) (v : Value) (n : Nat) (f : Nat → Nat → Value) (w : World) (hv : InK 2 w S v n f) (hS : ∀ b, S b → b < w.heap.size) (h1 : ∀ i, i < n → ∀ j, j < 2 → (f i j).oneCell' = true) (hn : n ≤ 1099511627776) :
  Calls Tryz.prog 239 #[v] w (GivesF w 55 2 n f) := by
 obtain ⟨a, c, rfl, hc, hm, hr⟩ := hv
 obtain ⟨i0, hi, hz0, hz1, hz2⟩ := info_parts info_col
 unfold maxLen at hm
 by_cases hp : 0 < n
 ·obtain ⟨b, o, rfl, hb, hcell⟩ := hr hp
  have hbw := hS b hb
  have hnil : ∀ W : World, (binOp .eql 49 (.slice (some ⟨b, o, none⟩) n c) (.slice none 0 0)).run Tryz.prog W = .ok (.bool false) W := fun W => Lib.run_eql_slice_nil W _ 55 (some ⟨b, o, none⟩) n c 0 0 Tryz.underlying49
  have HC := hid (flat_cells (w' := w.alloc (.cells #[] 55)) (by omega) hcell (fun p hp => World.cell?_alloc_lt _ _ _ (by omega)))
  have H1 := hid (flat_one (k := 2) (by omega) h1)
  have HL := hid (flatK_len 2 n f)
  obtain ⟨L, hLf⟩ : ∃ L, L = flatK 2 n f := ⟨_, rfl⟩
  rw [← hLf] at HC H1 HL
  have HLF := hid hLf
  clear hLf
  clear hr hcell h1
  go_enter Tryz.func239, Tryz.ntmps239
  go_wp2_with (at_builtin; refine wpList_append_form _ rfl _ _ 49 49 rfl w.heap.size 55 55 i0 (.agg #[.string ⟨#[]⟩, .slice none 0 0]) 2 40 Tryz.underlying49 Tryz.underlying49 hi hz0 hz1 hz2 rfl (by decide) (.slice (some ⟨w.heap.size, 0, none⟩) 0 0) 0 [] rfl (World.ownsRow_made w #[] 0 (Nat.le_refl _) (Nat.zero_le _) rfl) (some ⟨b, o, none⟩) n c L rfl HL.out (fun _ => ⟨_, rfl, HC.out⟩) H1.out (by omega) (by unfold maxLen; omega) (by omega) (by simp) ?_; intro g7 cap7 w7 hown7 hg7 hat7 hlt7; have HOWN7 := hid hown7; have HG7 := hid hg7; clear hown7 hg7 hat7)
  simp only [Nat.zero_add, List.nil_append] at HOWN7
  go_wp2
  go_ret
  refine ⟨_, _, rfl, by rw [← HLF.out]; exact HOWN7.out, ((Below.refl _ w).alloc (Nat.le_refl _) _).grown HG7.out (by simp) (fun k hk => ?_)⟩
  simp [Value.ownBlock] at hk
  omega
 ·obtain rfl : n = 0 := by omega
  clear hr hp h1
  go_enter Tryz.func239, Tryz.ntmps239
  cases a with
  | none =>
   have hnil : ∀ W : World, (binOp .eql 49 (.slice none 0 c) (.slice none 0 0)).run Tryz.prog W = .ok (.bool true) W := fun W => Lib.run_eql_slice_nil W _ 55 none 0 c 0 0 Tryz.underlying49
   go_wp2
   go_ret
   exact ⟨none, 0, rfl, World.ownsRow_nil _ _ _ _, Below.refl _ _⟩
  | some p =>
   have hnil : ∀ W : World, (binOp .eql 49 (.slice (some p) 0 c) (.slice none 0 0)).run Tryz.prog W = .ok (.bool false) W := fun W => Lib.run_eql_slice_nil W _ 55 (some p) 0 c 0 0 Tryz.underlying49
   have HM := hid (World.ownsRow_made (base := w.heap.size) (e := 55) (size := 2) w #[] 0 (Nat.le_refl _) (Nat.zero_le _) rfl)
   go_wp2_with (at_builtin; refine wpList_append_none rfl _ _ 49 49 rfl 55 55 i0 Tryz.underlying49 Tryz.underlying49 hi _ 0 0 rfl (Nat.le_refl _) (some p) 0 c rfl rfl ?_)
   go_ret
   exact ⟨some ⟨w.heap.size, 0, none⟩, 0, rfl, HM.out, (Below.refl _ _).alloc (Nat.le_refl _) _⟩
set_option maxRecDepth 100000 in
set_option maxHeartbeats 1000000 in
theorem clone_ops (S : Nat → Prop) (v : Value) (n : Nat) (f : Nat → Nat → Value) (w : World) (hv : InK 4 w S v n f) (hS : ∀ b, S b → b < w.heap.size) (h1 : ∀ i, i < n → ∀ j, j < 4 → (f i j).oneCell' = true) (hn : n ≤ 1099511627776) :
  Calls Tryz.prog 169 #[v] w (GivesF w 122 4 n f) := by
 obtain ⟨a, c, rfl, hc, hm, hr⟩ := hv
 obtain ⟨i0, hi, hz0, hz1, hz2⟩ := info_parts info_op
 unfold maxLen at hm
 by_cases hp : 0 < n
 ·obtain ⟨b, o, rfl, hb, hcell⟩ := hr hp
  have hbw := hS b hb
  have hnil : ∀ W : World, (binOp .eql 74 (.slice (some ⟨b, o, none⟩) n c) (.slice none 0 0)).run Tryz.prog W = .ok (.bool false) W := fun W => Lib.run_eql_slice_nil W _ 122 (some ⟨b, o, none⟩) n c 0 0 Tryz.underlying74
  have HC := hid (flat_cells (w' := w.alloc (.cells #[] 122)) (by omega) hcell (fun p hp => World.cell?_alloc_lt _ _ _ (by omega)))
  have H1 := hid (flat_one (k := 4) (by omega) h1)
  have HL := hid (flatK_len 4 n f)
  obtain ⟨L, hLf⟩ : ∃ L, L = flatK 4 n f := ⟨_, rfl⟩
  rw [← hLf] at HC H1 HL
  have HLF := hid hLf
  clear hLf
  clear hr hcell h1
  go_enter Tryz.func169, Tryz.ntmps169
  go_wp2_with (at_builtin; refine wpList_append_form _ rfl _ _ 74 74 rfl w.heap.size 122 122 i0 (.agg #[.int .i64 0, .int .i64 0, .string ⟨#[]⟩, .slice none 0 0]) 4 56 Tryz.underlying74 Tryz.underlying74 hi hz0 hz1 hz2 rfl (by decide) (.slice (some ⟨w.heap.size, 0, none⟩) 0 0) 0 [] rfl (World.ownsRow_made w #[] 0 (Nat.le_refl _) (Nat.zero_le _) rfl) (some ⟨b, o, none⟩) n c L rfl HL.out (fun _ => ⟨_, rfl, HC.out⟩) H1.out (by omega) (by unfold maxLen; omega) (by omega) (by simp) ?_; intro g7 cap7 w7 hown7 hg7 hat7 hlt7; have HOWN7 := hid hown7; have HG7 := hid hg7; clear hown7 hg7 hat7)
  simp only [Nat.zero_add, List.nil_append] at HOWN7
  go_wp2
  go_ret
  refine ⟨_, _, rfl, by rw [← HLF.out]; exact HOWN7.out, ((Below.refl _ w).alloc (Nat.le_refl _) _).grown HG7.out (by simp) (fun k hk => ?_)⟩
  simp [Value.ownBlock] at hk
  omega
 ·obtain rfl : n = 0 := by omega
  clear hr hp h1
  go_enter Tryz.func169, Tryz.ntmps169
  cases a with
  | none =>
   have hnil : ∀ W : World, (binOp .eql 74 (.slice none 0 c) (.slice none 0 0)).run Tryz.prog W = .ok (.bool true) W := fun W => Lib.run_eql_slice_nil W _ 122 none 0 c 0 0 Tryz.underlying74
   go_wp2
   go_ret
   exact ⟨none, 0, rfl, World.ownsRow_nil _ _ _ _, Below.refl _ _⟩
  | some p =>
   have hnil : ∀ W : World, (binOp .eql 74 (.slice (some p) 0 c) (.slice none 0 0)).run Tryz.prog W = .ok (.bool false) W := fun W => Lib.run_eql_slice_nil W _ 122 (some p) 0 c 0 0 Tryz.underlying74
   have HM := hid (World.ownsRow_made (base := w.heap.size) (e := 122) (size := 4) w #[] 0 (Nat.le_refl _) (Nat.zero_le _) rfl)
   go_wp2_with (at_builtin; refine wpList_append_none rfl _ _ 74 74 rfl 122 122 i0 Tryz.underlying74 Tryz.underlying74 hi _ 0 0 rfl (Nat.le_refl _) (some p) 0 c rfl rfl ?_)
   go_ret
   exact ⟨some ⟨w.heap.size, 0, none⟩, 0, rfl, HM.out, (Below.refl _ _).alloc (Nat.le_refl _) _⟩
set_option maxRecDepth 100000 in
set_option maxHeartbeats 1000000 in
theorem clone_lists (S : Nat → Prop) (v : Value) (n : Nat) (f : Nat → Nat → Value) (w : World) (hv : InK 1 w S v n f) (hS : ∀ b, S b → b < w.heap.size) (h1 : ∀ i, i < n → ∀ j, j < 1 → (f i j).oneCell' = true) (hn : n ≤ 1099511627776) :
  Calls Tryz.prog 217 #[v] w (GivesF w 74 1 n f) := by
 obtain ⟨a, c, rfl, hc, hm, hr⟩ := hv
 obtain ⟨i0, hi, hz0, hz1, hz2⟩ := info_parts info_ops
 unfold maxLen at hm
 by_cases hp : 0 < n
 ·obtain ⟨b, o, rfl, hb, hcell⟩ := hr hp
  have hbw := hS b hb
  have hnil : ∀ W : World, (binOp .eql 119 (.slice (some ⟨b, o, none⟩) n c) (.slice none 0 0)).run Tryz.prog W = .ok (.bool false) W := fun W => Lib.run_eql_slice_nil W _ 74 (some ⟨b, o, none⟩) n c 0 0 Tryz.underlying119
  have HC := hid (flat_cells (w' := w.alloc (.cells #[] 74)) (by omega) hcell (fun p hp => World.cell?_alloc_lt _ _ _ (by omega)))
  have H1 := hid (flat_one (k := 1) (by omega) h1)
  have HL := hid (flatK_len 1 n f)
  obtain ⟨L, hLf⟩ : ∃ L, L = flatK 1 n f := ⟨_, rfl⟩
  rw [← hLf] at HC H1 HL
  have HLF := hid hLf
  clear hLf
  clear hr hcell h1
  go_enter Tryz.func217, Tryz.ntmps217
  go_wp2_with (at_builtin; refine wpList_append_form _ rfl _ _ 119 119 rfl w.heap.size 74 74 i0 (.slice none 0 0) 1 24 Tryz.underlying119 Tryz.underlying119 hi hz0 hz1 hz2 rfl (by decide) (.slice (some ⟨w.heap.size, 0, none⟩) 0 0) 0 [] rfl (World.ownsRow_made w #[] 0 (Nat.le_refl _) (Nat.zero_le _) rfl) (some ⟨b, o, none⟩) n c L rfl HL.out (fun _ => ⟨_, rfl, HC.out⟩) H1.out (by omega) (by unfold maxLen; omega) (by omega) (by simp) ?_; intro g7 cap7 w7 hown7 hg7 hat7 hlt7; have HOWN7 := hid hown7; have HG7 := hid hg7; clear hown7 hg7 hat7)
  simp only [Nat.zero_add, List.nil_append] at HOWN7
  go_wp2
  go_ret
  refine ⟨_, _, rfl, by rw [← HLF.out]; exact HOWN7.out, ((Below.refl _ w).alloc (Nat.le_refl _) _).grown HG7.out (by simp) (fun k hk => ?_)⟩
  simp [Value.ownBlock] at hk
  omega
 ·obtain rfl : n = 0 := by omega
  clear hr hp h1
  go_enter Tryz.func217, Tryz.ntmps217
  cases a with
  | none =>
   have hnil : ∀ W : World, (binOp .eql 119 (.slice none 0 c) (.slice none 0 0)).run Tryz.prog W = .ok (.bool true) W := fun W => Lib.run_eql_slice_nil W _ 74 none 0 c 0 0 Tryz.underlying119
   go_wp2
   go_ret
   exact ⟨none, 0, rfl, World.ownsRow_nil _ _ _ _, Below.refl _ _⟩
  | some p =>
   have hnil : ∀ W : World, (binOp .eql 119 (.slice (some p) 0 c) (.slice none 0 0)).run Tryz.prog W = .ok (.bool false) W := fun W => Lib.run_eql_slice_nil W _ 74 (some p) 0 c 0 0 Tryz.underlying119
   have HM := hid (World.ownsRow_made (base := w.heap.size) (e := 74) (size := 1) w #[] 0 (Nat.le_refl _) (Nat.zero_le _) rfl)
   go_wp2_with (at_builtin; refine wpList_append_none rfl _ _ 119 119 rfl 74 74 i0 Tryz.underlying119 Tryz.underlying119 hi _ 0 0 rfl (Nat.le_refl _) (some p) 0 c rfl rfl ?_)
   go_ret
   exact ⟨some ⟨w.heap.size, 0, none⟩, 0, rfl, HM.out, (Below.refl _ _).alloc (Nat.le_refl _) _⟩
set_option maxRecDepth 100000 in
set_option maxHeartbeats 1000000 in
theorem clone_ints (S : Nat → Prop) (v : Value) (n : Nat) (f : Nat → Nat → Value) (w : World) (hv : InK 1 w S v n f) (hS : ∀ b, S b → b < w.heap.size) (h1 : ∀ i, i < n → ∀ j, j < 1 → (f i j).oneCell' = true) (hn : n ≤ 1099511627776) :
  Calls Tryz.prog 171 #[v] w (GivesF w 3 1 n f) := by
 obtain ⟨a, c, rfl, hc, hm, hr⟩ := hv
 obtain ⟨i0, hi, hz0, hz1, hz2⟩ := info_parts info_int0
 unfold maxLen at hm
 by_cases hp : 0 < n
 ·obtain ⟨b, o, rfl, hb, hcell⟩ := hr hp
  have hbw := hS b hb
  have hnil : ∀ W : World, (binOp .eql 22 (.slice (some ⟨b, o, none⟩) n c) (.slice none 0 0)).run Tryz.prog W = .ok (.bool false) W := fun W => Lib.run_eql_slice_nil W _ 3 (some ⟨b, o, none⟩) n c 0 0 Tryz.underlying22
  have HC := hid (flat_cells (w' := w.alloc (.cells #[] 3)) (by omega) hcell (fun p hp => World.cell?_alloc_lt _ _ _ (by omega)))
  have H1 := hid (flat_one (k := 1) (by omega) h1)
  have HL := hid (flatK_len 1 n f)
  obtain ⟨L, hLf⟩ : ∃ L, L = flatK 1 n f := ⟨_, rfl⟩
  rw [← hLf] at HC H1 HL
  have HLF := hid hLf
  clear hLf
  clear hr hcell h1
  go_enter Tryz.func171, Tryz.ntmps171
  go_wp2_with (at_builtin; refine wpList_append_form _ rfl _ _ 22 22 rfl w.heap.size 3 3 i0 (.int .i64 0) 1 8 Tryz.underlying22 Tryz.underlying22 hi hz0 hz1 hz2 rfl (by decide) (.slice (some ⟨w.heap.size, 0, none⟩) 0 0) 0 [] rfl (World.ownsRow_made w #[] 0 (Nat.le_refl _) (Nat.zero_le _) rfl) (some ⟨b, o, none⟩) n c L rfl HL.out (fun _ => ⟨_, rfl, HC.out⟩) H1.out (by omega) (by unfold maxLen; omega) (by omega) (by simp) ?_; intro g7 cap7 w7 hown7 hg7 hat7 hlt7; have HOWN7 := hid hown7; have HG7 := hid hg7; clear hown7 hg7 hat7)
  simp only [Nat.zero_add, List.nil_append] at HOWN7
  go_wp2
  go_ret
  refine ⟨_, _, rfl, by rw [← HLF.out]; exact HOWN7.out, ((Below.refl _ w).alloc (Nat.le_refl _) _).grown HG7.out (by simp) (fun k hk => ?_)⟩
  simp [Value.ownBlock] at hk
  omega
 ·obtain rfl : n = 0 := by omega
  clear hr hp h1
  go_enter Tryz.func171, Tryz.ntmps171
  cases a with
  | none =>
   have hnil : ∀ W : World, (binOp .eql 22 (.slice none 0 c) (.slice none 0 0)).run Tryz.prog W = .ok (.bool true) W := fun W => Lib.run_eql_slice_nil W _ 3 none 0 c 0 0 Tryz.underlying22
   go_wp2
   go_ret
   exact ⟨none, 0, rfl, World.ownsRow_nil _ _ _ _, Below.refl _ _⟩
  | some p =>
   have hnil : ∀ W : World, (binOp .eql 22 (.slice (some p) 0 c) (.slice none 0 0)).run Tryz.prog W = .ok (.bool false) W := fun W => Lib.run_eql_slice_nil W _ 3 (some p) 0 c 0 0 Tryz.underlying22
   have HM := hid (World.ownsRow_made (base := w.heap.size) (e := 3) (size := 1) w #[] 0 (Nat.le_refl _) (Nat.zero_le _) rfl)
   go_wp2_with (at_builtin; refine wpList_append_none rfl _ _ 22 22 rfl 3 3 i0 Tryz.underlying22 Tryz.underlying22 hi _ 0 0 rfl (Nat.le_refl _) (some p) 0 c rfl rfl ?_)
   go_ret
   exact ⟨some ⟨w.heap.size, 0, none⟩, 0, rfl, HM.out, (Below.refl _ _).alloc (Nat.le_refl _) _⟩
end Go.Proofs.YtaajpliifdlokaaGreatDoor

namespace Go.Proofs.YtaajpliifdlokaaGreatDoor
open Go.RowKit
theorem cmpC_neg (a b : Cl) : cmpC a b < 0 ↔ 0 < cmpC b a := by
  obtain ⟨an, s⟩ := a
  obtain ⟨bn, t⟩ := b
  cases an <;> cases bn
  · rcases sl_total s t with h | h | h
    · have h2 : sl t s = false := by
        cases h3 : sl t s with
        | false => rfl
        | true => have := sl_trans h h3; rw [sl_irrefl] at this; cases this
      have h3 : t ≠ s := by intro e; subst e; rw [sl_irrefl] at h; cases h
      simp [cmpC, h, h2, h3]
    · subst h
      simp [cmpC, sl_irrefl]
    · have h2 : sl s t = false := by
        cases h3 : sl s t with
        | false => rfl
        | true => have := sl_trans h h3; rw [sl_irrefl] at this; cases this
      have h3 : s ≠ t := by intro e; subst e; rw [sl_irrefl] at h; cases h
      simp [cmpC, h, h2, h3]
  · simp [cmpC]
  · simp [cmpC]
  · simp [cmpC]
theorem gtC_iff (xs : List Co) (c r x : Nat) : gtC xs c r x = decide (cmpC (cellAt xs c r) (cellAt xs c x) < 0) := by
  unfold gtC
  rw [decide_eq_decide]
  exact (cmpC_neg _ _).symm
def insL (out : List Nat) (j r : Nat) (rest : List Nat) : List Nat := out.take j ++ r :: (out.drop j ++ rest)
theorem insL_top (out : List Nat) (r : Nat) (rest : List Nat) : insL out out.length r rest = out ++ r :: rest := by simp [insL]
theorem insL_len {out : List Nat} {j : Nat} (hj : j ≤ out.length) (r : Nat) (rest : List Nat) : (insL out j r rest).length = out.length + 1 + rest.length := by
  simp [insL]
  omega
theorem insL_at {out : List Nat} {j : Nat} (hj : j ≤ out.length) (r : Nat) (rest : List Nat) : (insL out j r rest).getD j 0 = r := by
  unfold insL
  rw [List.getD_eq_getElem?_getD, List.getElem?_append_right (by simp; omega)]
  simp [Nat.min_eq_left hj]
theorem insL_before {out : List Nat} {j : Nat} (hj : j < out.length) (r : Nat) (rest : List Nat) : (insL out (j + 1) r rest).getD j 0 = out.getD j 0 := by
  unfold insL
  rw [List.getD_eq_getElem?_getD, List.getElem?_append_left (by simp; omega), List.getElem?_take_of_lt (by omega)]
  rfl
theorem insL_swap {out : List Nat} {j : Nat} (hj : j < out.length) (r : Nat) (rest : List Nat) : ((insL out (j + 1) r rest).set (j + 1) (out.getD j 0)).set j r = insL out j r rest := by
  have e1 : out.take (j + 1) = out.take j ++ [out.getD j 0] := by
    rw [List.take_succ_eq_append_getElem hj]
    simp [List.getD, hj]
  have e2 : out.drop j = out.getD j 0 :: out.drop (j + 1) := by
    rw [List.drop_eq_getElem_cons hj]
    simp [List.getD, hj]
  have hl : (out.take j).length = j := by rw [List.length_take]; omega
  unfold insL
  rw [e1, e2, List.append_assoc]
  rw [List.set_append_right _ _ (by omega), hl, show j + 1 - j = 1 by omega]
  rw [List.set_append_right _ _ (by omega), hl, Nat.sub_self]
  simp
theorem step_ins {xs : List Co} {o : Po} (hk : o.kind = 5) (out : List Nat) (r : Nat) (rest : List Nat) : insL out (sortAt (gtC xs o.col.toNat r) out out.length) r rest = stepL xs o out r ++ rest := by
  unfold stepL
  have e : keepL xs o out r = true := by unfold keepL; rw [if_neg (by omega), if_neg (by omega), if_neg (by omega)]
  rw [if_pos e]
  unfold atL insL
  rw [if_pos hk]
  simp
theorem sortAt_pass {f : Nat → Bool} {out : List Nat} {j : Nat} (h : f (out.getD j 0) = true) : sortAt f out (j + 1) = sortAt f out j := by
  rw [sortAt, if_pos h]
theorem sortAt_stop {f : Nat → Bool} {out : List Nat} {j : Nat} (h : f (out.getD j 0) = false) : sortAt f out (j + 1) = j + 1 := by
  rw [sortAt, if_neg (by rw [h]; simp)]
def rowC (xs : List Co) (i : Nat) : List Cl := xs.map fun c => c.cells.getD i Cl.z
theorem eqRow_rowC (xs : List Co) (i k : Nat) : eqRow xs i k = decide (rowC xs i = rowC xs k) := by
  unfold eqRow rowC
  rw [Bool.eq_iff_iff, List.all_eq_true, decide_eq_true_eq]
  constructor
  · intro h
    exact List.map_congr_left fun c hc => of_decide_eq_true (h c hc)
  · intro h c hc
    exact decide_eq_true (List.map_inj_left.1 h c hc)
theorem stepL_D {xs : List Co} {o : Po} (hk : o.kind = 4) (out : List Nat) (r : Nat) : stepL xs o out r = if out.any (fun k => decide (rowC xs r = rowC xs k)) = true then out else out ++ [r] := by
  have e1 : keepL xs o out r = out.all fun x => !eqRow xs x r := by unfold keepL; rw [if_neg (by omega), if_neg (by omega), if_pos hk]
  have e2 : atL xs o out r = out.length := by unfold atL; rw [if_neg (by omega)]
  unfold stepL
  rw [e1, e2]
  have e3 : (out.all fun x => !eqRow xs x r) = !(out.any fun k => decide (rowC xs r = rowC xs k)) := by
    rw [List.not_any_eq_all_not]
    congr 1
    funext x
    rw [eqRow_comm, eqRow_rowC]
  rw [e3]
  cases (out.any fun k => decide (rowC xs r = rowC xs k)) <;> simp
def Few (xs : List Co) : Prop := ∃ n, n ≤ 19 ∧ ColsV xs n
theorem few_do {xs : List Co} {o : Po} (h : Few xs) (hc : canL xs.length o = true) : Few (doL xs o) := by
  obtain ⟨n, hn, hx⟩ := h
  unfold doL
  by_cases h3 : o.kind = 3
  · rw [if_pos h3]
    have hc2 : o.cols.all (thereL xs.length) = true := by
      unfold canL at hc
      rw [if_neg (by omega), if_neg (by omega), if_pos h3] at hc
      simp only [Bool.and_eq_true] at hc
      exact hc.1
    exact ⟨n, hn, proj_ok hx hc2⟩
  · rw [if_neg h3]
    obtain ⟨r1, r2⟩ := rowsL_ok xs o (rowsC xs)
    rcases Nat.eq_zero_or_pos xs.length with hz | hp
    · have e : xs = [] := List.eq_nil_of_length_eq_zero hz
      exact ⟨0, by omega, fun x hx => by simp [selL, e] at hx⟩
    · have hrc := rowsC_of hx hp
      rw [hrc] at r1 r2 ⊢
      exact ⟨_, by omega, sel_ok hx r2⟩
theorem Few.rows {xs : List Co} (h : Few xs) : rowsC xs ≤ 19 := by
  obtain ⟨n, hn, hx⟩ := h
  rcases Nat.eq_zero_or_pos xs.length with hz | hp
  · have e : xs = [] := List.eq_nil_of_length_eq_zero hz
    subst e
    simp [rowsC, Co.z]
  · rw [rowsC_of hx hp]
    exact hn
theorem Few.cells {xs : List Co} (h : Few xs) : ∀ x ∈ xs, x.cells.length = rowsC xs := by
  obtain ⟨n, hn, hx⟩ := h
  intro x hxx
  rw [rowsC_of hx (List.length_pos_of_mem hxx)]
  exact (hx x hxx).2.1
theorem Few.tab {t : Ta} {ys : List Co} (ht : TabV t) (h : Few ys) (hl : ys.length ≤ 64) : TabV ⟨t.id, t.name, ys⟩ := by
  obtain ⟨n, hn, hx⟩ := h
  obtain ⟨h0, h1, h2, -, -⟩ := ht
  exact ⟨h0, h1, h2, hl, n, by omega, hx⟩
end Go.Proofs.YtaajpliifdlokaaGreatDoor

namespace Go.Proofs.YtaajpliifdlokaaGreatDoor
open Go.RowKit
theorem made_ints (n : Nat) (h : n ≤ 1048576) (w : World) :
    (Instr.makeSlice 22 (.int .i64 (n : Int)) (.int .i64 (n : Int))).run Tryz.prog w = .ok (.slice (some ⟨w.heap.size, 0, none⟩) n n) (w.alloc (.cells (madeCells #[.int .i64 0] n) 3)) :=
  run_make_row' (P := Tryz.prog) 22 3 (.int .i64 0) 8 Tryz.underlying22 info_int0 rfl .i64 .i64 n (by omega) (by omega) w
def Nums (w : World) (b : Nat) (L : List Nat) : Prop := w.rowIs b 3 L.length (natF L)
theorem Nums.slice {w : World} {b : Nat} {L : List Nat} (h : Nums w b L) (hl : L.length ≤ maxLen) {k : Nat} (hk : k ≤ L.length) {S : Nat → Prop} (hS : S b) : InK 1 w S (.slice (some ⟨b, 0, none⟩) k L.length) k (fun i _ => natF L i) :=
  ⟨_, _, rfl, hk, hl, fun _ => ⟨b, 0, rfl, hS, fun i hi j hj => by
    obtain rfl : j = 0 := by omega
    rw [show 0 + i * 1 + 0 = i by omega]
    exact World.rowIs.cell h (by omega)⟩⟩
theorem Nums.later {w w' : World} {b : Nat} {L : List Nat} (h : Nums w b L) (e : w'.heap[b]? = w.heap[b]?) : Nums w' b L := World.rowIs.of_block h e
theorem Nums.put {w : World} {b : Nat} {L : List Nat} (h : Nums w b L) (i x : Nat) : Nums (w.setCell ⟨b, i, none⟩ (.int .i64 (x : Int))) b (L.set i x) := by
  unfold Nums at *
  rw [List.length_set]
  refine (World.rowIs.set h i _).congr fun j hj => ?_
  unfold natF
  by_cases e : j = i
  · subst e
    simp [List.getD, hj]
  · rw [if_neg e]
    simp [List.getD, List.getElem?_set, Ne.symm e]
set_option maxRecDepth 100000 in
set_option maxHeartbeats 1000000 in
theorem expl_rows (id : Int) (nm : ByteArray) (v : Value) (xs : List Co) (B : Nat) (w : World) (hv : RdCo w (· < B) v xs) (hB : B ≤ w.heap.size) (hn : rowsC xs ≤ 1048576) :
  Calls Tryz.prog 263 #[.agg #[.int .i64 id, .string nm, v]] w (fun e w' => ∃ b, e = .returned (.slice (some ⟨b, 0, none⟩) (rowsC xs) (rowsC xs)) ∧ Nums w' b (List.range (rowsC xs)) ∧ w.heap.size ≤ b ∧ Below w.heap.size w w') := by
 have HRW := hid (fun W (hW : Below w.heap.size w W) => table_Rows id nm v xs B W (hv.keep fun p (hp : p.block < B) => hW.cell (p := p) (by omega)) (Nat.le_trans hB hW.size))
 obtain ⟨va, vc, rfl⟩ : ∃ a c, v = .slice a xs.length c := by
  obtain ⟨cv, ⟨a, c, e, -⟩, -⟩ := hv
  exact ⟨a, c, e⟩
 clear hv
 generalize rowsC xs = n at *
 have hmk := made_ints n hn
 generalize xs.length = L at *
 have HX0 := hid (BoxN.new w #[.int .i64 id, .string nm, .slice va L vc] 51)
 have HB0 := hid ((Below.refl w.heap.size w).alloc (Nat.le_refl _) (.cells #[.int .i64 id, .string nm, .slice va L vc] 51))
 have x0 := HX0.out.cell 0 rfl
 have x1 := HX0.out.cell 1 rfl
 have x2 := HX0.out.cell 2 rfl
 have hz0 : (w.alloc (.cells #[.int .i64 id, .string nm, .slice va L vc] 51)).heap.size = w.heap.size + 1 := by simp
 go_enter Tryz.func263, Tryz.ntmps263
 generalize hLA : Code.loop _ = LA
 go_wp2_with fail
 with_reducible refine (HRW.out _ HB0.out).mono ?_
 generalize w.alloc (.cells #[.int .i64 id, .string nm, .slice va L vc] 51) = W0 at *
 rintro e w1 ⟨rfl, hb1⟩
 have HB1 := hid (HB0.out.trans (hb1.mono (by omega)))
 have hz1 := hb1.size
 clear x0 x1 x2 hb1 HRW HX0
 have HB2 := hid (HB1.out.alloc (by omega) (.cells (madeCells #[.int .i64 0] n) 3))
 have HR2 := hid (World.rowIs_made w1 (.int .i64 0) n 3)
 go_wp2_with fail
 generalize w1.alloc (.cells (madeCells #[.int .i64 0] n) 3) = W2 at *
 subst hLA
 go_loopg [10] n (fun N i wr => ∃ q : Nat, i = .int .i64 (q : Int) ∧ q + N = n ∧ Hid (Below w.heap.size w wr) ∧ Hid (wr.rowIs w1.heap.size 3 n (fun j => if j < q then .int .i64 (j : Int) else .int .i64 0)))
 case atStart => exact ⟨0, rfl, by omega, HB2, hid (HR2.out.congr fun i hi => by rw [if_neg (by omega)])⟩
 case round =>
  obtain ⟨q, rfl, hq, HB, HR⟩ := hrel
  by_cases hp : 0 < gk
  ·have f0 := HR.out.frozen q
   have c0 := HR.out.cell (i := q) (by omega)
   go_wp2
   go_roundg (gk - 1)
   case rel => exact ⟨q + 1, by go_num, by omega, hid (HB.out.setCell (p := ⟨w1.heap.size, q, none⟩) (by show w.heap.size ≤ w1.heap.size; omega) _), hid ((HR.out.set q _).congr fun j hj => by
    by_cases e : j = q
    ·subst e; rw [if_pos rfl, if_pos (by omega)]
    ·rw [if_neg e]
     by_cases h2 : j < q
     ·rw [if_pos h2, if_pos (by omega)]
     ·rw [if_neg h2, if_neg (by omega)])⟩
   case measure => omega
  ·obtain rfl : q = n := by omega
   go_wp2
   go_ret
   refine ⟨_, rfl, ?_, by omega, HB.out⟩
   unfold Nums
   rw [List.length_range]
   exact HR.out.congr fun i hi => by rw [if_pos hi]; simp [natF, List.getD, hi]
end Go.Proofs.YtaajpliifdlokaaGreatDoor
