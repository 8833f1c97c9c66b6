/- Plain: the rows of CopiesCounts, counted. No program in sight. CopiesCounts: the state of its walk, and how it changes. CopiesCounts: the boxes that a round of a pass reads. -/
import Derived.Test.YtfcccldofaleoaaGreatDoorEb
import Derived.Deep.AppendLies
import Derived.Deep.OwnRows
import Derived.Test.YtfcccldofaleoaaGreatDoorEn
import Derived.Test.YtfcccldofaleoaaGreatDoorLb
import Derived.Test.YtfcccldofaleoaaGreatDoorTs
namespace Go.Proofs.YtfcccldofaleoaaGreatDoor
open Go.RowKit

def pC (v : Nat) : Cl := ⟨false, ⟨#[UInt8.ofNat (97 + v % 3)]⟩⟩
def qC (v : Nat) : Cl := if v / 3 % 3 = 0 then ⟨true, ⟨#[]⟩⟩ else ⟨false, ⟨#[UInt8.ofNat (97 + v / 3 % 3)]⟩⟩
def tX (a : List Nat) : List Co := [⟨⟨#[110]⟩, a.map pC⟩, ⟨⟨#[109]⟩, a.map qC⟩]
def tY (b : List Nat) : List Co := [⟨⟨#[109]⟩, b.map qC⟩, ⟨⟨#[110]⟩, b.map pC⟩]
theorem pC_mod (v : Nat) : pC (v % 9) = pC v := by
  unfold pC
  rw [show v % 9 % 3 = v % 3 by omega]
theorem qC_mod (v : Nat) : qC (v % 9) = qC v := by
  unfold qC
  rw [show v % 9 / 3 % 3 = v / 3 % 3 by omega]
theorem pq_inj : ∀ x, x < 9 → ∀ y, y < 9 → [pC x, qC x] = [pC y, qC y] → x = y := by decide +kernel
theorem cells_at {f : Nat → Cl} {a : List Nat} {i : Nat} (hi : i < a.length) : (a.map f).getD i Cl.z = f (a.getD i 0) := by simp [List.getD, hi]
theorem rowsX (a : List Nat) : rowsOf (tX a) (ownL (tX a)) (rowsN (tX a)) = (a.map (· % 9)).map fun k => [pC k, qC k] := by
  have h1 : ownL (tX a) = [0, 1] := rfl
  have h2 : rowsN (tX a) = a.length := by simp [rowsN, tX]
  rw [h1, h2]
  apply List.ext_getElem
  · simp [rowsOf]
  · intro i h3 h4
    have hi : i < a.length := by simpa [rowsOf] using h3
    simp only [rowsOf, rowAt, List.getElem_map, List.getElem_range, List.map_cons, List.map_nil, pC_mod, qC_mod]
    have e1 : cellAt (tX a) 0 i = (a.map pC).getD i Cl.z := rfl
    have e2 : cellAt (tX a) 1 i = (a.map qC).getD i Cl.z := rfl
    rw [e1, e2, cells_at hi, cells_at hi]
    simp [List.getD, hi]
theorem rowsY (b : List Nat) : rowsOf (tY b) [1, 0] (rowsN (tY b)) = (b.map (· % 9)).map fun k => [pC k, qC k] := by
  have h2 : rowsN (tY b) = b.length := by simp [rowsN, tY]
  rw [h2]
  apply List.ext_getElem
  · simp [rowsOf]
  · intro i h3 h4
    have hi : i < b.length := by simpa [rowsOf] using h3
    simp only [rowsOf, rowAt, List.getElem_map, List.getElem_range, List.map_cons, List.map_nil, pC_mod, qC_mod]
    have e1 : cellAt (tY b) 1 i = (b.map pC).getD i Cl.z := rfl
    have e2 : cellAt (tY b) 0 i = (b.map qC).getD i Cl.z := rfl
    rw [e1, e2, cells_at hi, cells_at hi]
    simp [List.getD, hi]
theorem aligns_xy (a b : List Nat) : Aligns (tX a) (tY b) := by
  show ([⟨#[110]⟩, ⟨#[109]⟩] : List ByteArray).Nodup ∧ ([⟨#[109]⟩, ⟨#[110]⟩] : List ByteArray).Nodup ∧ ([⟨#[110]⟩, ⟨#[109]⟩] : List ByteArray).Perm [⟨#[109]⟩, ⟨#[110]⟩]
  decide +kernel
theorem align_xy (a b : List Nat) : alignL (tX a) (tY b) = [1, 0] := by
  show ([⟨#[110]⟩, ⟨#[109]⟩] : List ByteArray).map (idxP [⟨#[109]⟩, ⟨#[110]⟩]) = [1, 0]
  decide +kernel
/-- rows that both have, as the law counts them -/
def cnt9 (a : List Nat) (i : Nat) : Nat := (a.map (· % 9)).count i
theorem counts_law (a b : List Nat) : commonL (tX a) (tY b) = minSum 9 (cnt9 a) (cnt9 b) := by
  unfold commonL
  rw [if_pos (aligns_xy a b), align_xy, rowsX, rowsY]
  have h9 : ∀ {l : List Nat}, ∀ x ∈ l.map (· % 9), x < 9 := fun x hx => by
    obtain ⟨v, -, rfl⟩ := List.mem_map.1 hx
    exact Nat.mod_lt _ (by omega)
  rw [comL_map (fun x hx y hy e => pq_inj x (h9 x hx) y (h9 y hy) e), comL_minSum h9]
  rfl
theorem cnt9_snoc (a : List Nat) (v i : Nat) : cnt9 (a ++ [v]) i = cnt9 a i + if v % 9 = i then 1 else 0 := by
  unfold cnt9
  rw [List.map_append, List.count_append, List.map_singleton, List.count_singleton]
  simp only [beq_iff_eq]
theorem minSum_succ (N : Nat) (f g : Nat → Nat) : minSum (N + 1) f g = minSum N f g + min (f N) (g N) := by simp [minSum, List.range_succ]
theorem cnt9_le (a : List Nat) (i : Nat) : cnt9 a i ≤ a.length := by
  unfold cnt9
  exact Nat.le_trans List.count_le_length (by simp)

end Go.Proofs.YtfcccldofaleoaaGreatDoor

namespace Go.Proofs.YtfcccldofaleoaaGreatDoor
open Go.RowKit Go.Shelf

/-- The counts lie in cb, the two columns of the table in rb; their cells in v1 and v2. ws: the world in which this pass began. -/
structure PassSt (w0 ws W : World) (cb rb base : Nat) (ct : TypeId) (cnt : Nat → Nat) (n1 n2 : ByteArray) (x1 x2 v1 v2 : Value) (l1 l2 : List Cl) : Prop where
  bel : Below w0.heap.size w0 W
  keep : ∀ k, k < base → k ≠ cb → k ≠ rb → W.heap[k]? = ws.heap[k]?
  low : base ≤ W.heap.size
  cnts : W.rowIs cb ct 18 (fun j => .int .i64 (cnt j : Int))
  row : BoxN W rb 30 #[.string n1, x1, .string n2, x2]
  own1 : W.ownsRow base 58 2 v1 l1.length (flatK 2 l1.length (clF l1))
  own2 : W.ownsRow base 58 2 v2 l2.length (flatK 2 l2.length (clF l2))
  ne : ∀ k, v1.ownBlock = some k → v2.ownBlock ≠ some k

theorem rowIs_at {w w' : World} {b n : Nat} {t : TypeId} {f : Nat → Value} (h : w.rowIs b t n f) (e : w'.heap[b]? = w.heap[b]?) : w'.rowIs b t n f := by
  obtain ⟨c, hc, r⟩ := h
  exact ⟨c, e.trans hc, r⟩

section
variable {w0 ws W W' : World} {cb rb base : Nat} {ct : TypeId} {cnt : Nat → Nat} {n1 n2 : ByteArray} {x1 x2 v1 v2 : Value} {l1 l2 : List Cl}
/-- nothing that was there changes -/
theorem PassSt.later (h : PassSt w0 ws W cb rb base ct cnt n1 n2 x1 x2 v1 v2 l1 l2) (hb : Below W.heap.size W W') (hc : cb < base) (hr : rb < base) (hw : w0.heap.size ≤ W.heap.size) : PassSt w0 ws W' cb rb base ct cnt n1 n2 x1 x2 v1 v2 l1 l2 :=
  have hlo := h.low
  ⟨h.bel.trans (hb.mono hw), fun k h1 h2 h3 => (hb.block k (by omega)).trans (h.keep k h1 h2 h3), Nat.le_trans h.low hb.size, rowIs_at h.cnts (hb.block cb (by omega)), (hb.block rb (by omega)).trans h.row,
    own_later h.own1 hb, own_later h.own2 hb, h.ne⟩
/-- a count -/
theorem PassSt.count (h : PassSt w0 ws W cb rb base ct cnt n1 n2 x1 x2 v1 v2 l1 l2) (hc : cb < base) (hcr : cb ≠ rb) (hc0 : w0.heap.size ≤ cb) (j m : Nat) :
    PassSt w0 ws (W.setCell ⟨cb, j, none⟩ (.int .i64 (m : Int))) cb rb base ct (fun i => if i = j then m else cnt i) n1 n2 x1 x2 v1 v2 l1 l2 := by
  have o1 : ∀ b, v1.ownBlock = some b → b ≠ cb := fun b hb => by have := (h.own1.lt b hb).1; omega
  have o2 : ∀ b, v2.ownBlock = some b → b ≠ cb := fun b hb => by have := (h.own2.lt b hb).1; omega
  refine ⟨h.bel.setCell (p := ⟨cb, j, none⟩) hc0 _, fun k h1 h2 h3 => (Below.heap_setCell _ _ _ _ h2).trans (h.keep k h1 h2 h3), by simpa using h.low, ?_, (Below.heap_setCell _ _ _ _ (Ne.symm hcr)).trans h.row,
    own_at h.own1 fun b hb => Below.heap_setCell _ _ _ _ (o1 b hb), own_at h.own2 fun b hb => Below.heap_setCell _ _ _ _ (o2 b hb), h.ne⟩
  have := h.cnts.set j (.int .i64 (m : Int))
  obtain ⟨c, hc1, hc2, hc3⟩ := this
  refine ⟨c, hc1, hc2, fun i hi => (hc3 i hi).trans ?_⟩
  by_cases e : i = j
  · simp only [if_pos e]
  · simp only [if_neg e]
/-- a cell is appended to the first column -/
theorem PassSt.app1 (h : PassSt w0 ws W cb rb base ct cnt n1 n2 x1 x2 v1 v2 l1 l2) {c : Cl} {p m cap : Nat} (hm : m = l1.length + 1)
    (hown : W'.ownsRow base 58 2 (.slice (some ⟨p, 0, none⟩) m cap) m (flatK 2 l1.length (clF l1) ++ [.bool c.null, .string c.text])) (hgr : W.grownBy W' v1.ownBlock) (hat : v1.ownBlock = some p ∨ p = W.heap.size)
    (hc : cb < base) (hr : rb < base) (hw : w0.heap.size ≤ base) : PassSt w0 ws W' cb rb base ct cnt n1 n2 x1 x2 (.slice (some ⟨p, 0, none⟩) m cap) v2 (l1 ++ [c]) l2 := by
  have hv : ∀ k, v1.ownBlock = some k → base ≤ k := fun k hk => (h.own1.lt k hk).1
  have hlo := h.low
  have hx : ∀ k, k < base → W'.heap[k]? = W.heap[k]? := fun k hk => hgr.block k (by omega) (fun e => by have := hv k e.symm; omega)
  have hb : Below w0.heap.size w0 W' := h.bel.trans ⟨hgr.os, hgr.tape, hgr.output, hgr.size, fun k hk => hx k (by omega)⟩
  subst hm
  refine ⟨hb, fun k h1 h2 h3 => (hx k h1).trans (h.keep k h1 h2 h3), Nat.le_trans hlo hgr.size, rowIs_at h.cnts (hx cb hc), (hx rb hr).trans h.row, ?_, own_at h.own2 fun b hb => hgr.block b (h.own2.lt b hb).2 fun e => h.ne b e.symm hb, ?_⟩
  · rw [← cl_push, List.length_append, List.length_singleton]
    exact hown
  · rintro k hk hk2
    simp [Value.ownBlock] at hk
    subst hk
    rcases hat with h1 | h1
    · exact h.ne _ h1 hk2
    · have := (h.own2.lt _ hk2).2
      omega
/-- a cell is appended to the second column -/
theorem PassSt.app2 (h : PassSt w0 ws W cb rb base ct cnt n1 n2 x1 x2 v1 v2 l1 l2) {c : Cl} {p m cap : Nat} (hm : m = l2.length + 1)
    (hown : W'.ownsRow base 58 2 (.slice (some ⟨p, 0, none⟩) m cap) m (flatK 2 l2.length (clF l2) ++ [.bool c.null, .string c.text])) (hgr : W.grownBy W' v2.ownBlock) (hat : v2.ownBlock = some p ∨ p = W.heap.size)
    (hc : cb < base) (hr : rb < base) (hw : w0.heap.size ≤ base) : PassSt w0 ws W' cb rb base ct cnt n1 n2 x1 x2 v1 (.slice (some ⟨p, 0, none⟩) m cap) l1 (l2 ++ [c]) := by
  have hv : ∀ k, v2.ownBlock = some k → base ≤ k := fun k hk => (h.own2.lt k hk).1
  have hlo := h.low
  have hx : ∀ k, k < base → W'.heap[k]? = W.heap[k]? := fun k hk => hgr.block k (by omega) (fun e => by have := hv k e.symm; omega)
  have hb : Below w0.heap.size w0 W' := h.bel.trans ⟨hgr.os, hgr.tape, hgr.output, hgr.size, fun k hk => hx k (by omega)⟩
  subst hm
  refine ⟨hb, fun k h1 h2 h3 => (hx k h1).trans (h.keep k h1 h2 h3), Nat.le_trans hlo hgr.size, rowIs_at h.cnts (hx cb hc), (hx rb hr).trans h.row, own_at h.own1 fun b hb => hgr.block b (h.own1.lt b hb).2 fun e => h.ne b hb e.symm, ?_, ?_⟩
  · rw [← cl_push, List.length_append, List.length_singleton]
    exact hown
  · rintro k hk hk2
    simp [Value.ownBlock] at hk2
    subst hk2
    rcases hat with h1 | h1
    · exact h.ne _ hk h1
    · have := (h.own1.lt _ hk).2
      omega
/-- a column's cells are stored -/
theorem PassSt.put1 (h : PassSt w0 ws W cb rb base ct cnt n1 n2 x1 x2 v1 v2 l1 l2) (hr : rb < base) (hcr : cb ≠ rb) (hc0 : w0.heap.size ≤ rb) (x : Value) :
    PassSt w0 ws (W.setCell ⟨rb, 1, none⟩ x) cb rb base ct cnt n1 n2 x x2 v1 v2 l1 l2 := by
  have o1 : ∀ b, v1.ownBlock = some b → b ≠ rb := fun b hb => by have := (h.own1.lt b hb).1; omega
  have o2 : ∀ b, v2.ownBlock = some b → b ≠ rb := fun b hb => by have := (h.own2.lt b hb).1; omega
  exact ⟨h.bel.setCell (p := ⟨rb, 1, none⟩) hc0 _, fun k h1 h2 h3 => (Below.heap_setCell _ _ _ _ h3).trans (h.keep k h1 h2 h3), by simpa using h.low, rowIs_at h.cnts (Below.heap_setCell _ _ _ _ hcr), h.row.set 1 x,
    own_at h.own1 fun b hb => Below.heap_setCell _ _ _ _ (o1 b hb), own_at h.own2 fun b hb => Below.heap_setCell _ _ _ _ (o2 b hb), h.ne⟩
theorem PassSt.put2 (h : PassSt w0 ws W cb rb base ct cnt n1 n2 x1 x2 v1 v2 l1 l2) (hr : rb < base) (hcr : cb ≠ rb) (hc0 : w0.heap.size ≤ rb) (x : Value) :
    PassSt w0 ws (W.setCell ⟨rb, 3, none⟩ x) cb rb base ct cnt n1 n2 x1 x v1 v2 l1 l2 := by
  have o1 : ∀ b, v1.ownBlock = some b → b ≠ rb := fun b hb => by have := (h.own1.lt b hb).1; omega
  have o2 : ∀ b, v2.ownBlock = some b → b ≠ rb := fun b hb => by have := (h.own2.lt b hb).1; omega
  exact ⟨h.bel.setCell (p := ⟨rb, 3, none⟩) hc0 _, fun k h1 h2 h3 => (Below.heap_setCell _ _ _ _ h3).trans (h.keep k h1 h2 h3), by simpa using h.low, rowIs_at h.cnts (Below.heap_setCell _ _ _ _ hcr), h.row.set 3 x,
    own_at h.own1 fun b hb => Below.heap_setCell _ _ _ _ (o1 b hb), own_at h.own2 fun b hb => Below.heap_setCell _ _ _ _ (o2 b hb), h.ne⟩
end

end Go.Proofs.YtfcccldofaleoaaGreatDoor

namespace Go.Proofs.YtfcccldofaleoaaGreatDoor
open Go.RowKit Go.Shelf

/-- The table's box, and the boxes of the two cells; what lies between 'base' and 'top' may be a column's row. -/
structure Reg (base top : Nat) (W : World) (tb rb pb qb : Nat) (t1 t2 : Value) (c d : Cl) : Prop where
  tab : BoxN W tb 24 #[t1, t2, .slice (some ⟨rb, 0, none⟩) 2 2]
  p : BoxN W pb 58 #[.bool c.null, .string c.text]
  q : BoxN W qb 58 #[.bool d.null, .string d.text]
  lo : tb < base
  hp : top ≤ pb
  hq : top ≤ qb

theorem far_box {base top : Nat} {W W' : World} {row : Option Nat} {k : Nat} {t : TypeId} {vs : Array Value} (h : BoxN W k t vs) (hg : W.grownBy W' row) (hne : ∀ b, row = some b → base ≤ b ∧ b < top) (hk : k < base ∨ top ≤ k) : BoxN W' k t vs :=
  h.grown hg (fun e => by have := hne k e.symm; omega)

section
variable {base top : Nat} {W W' : World} {tb rb pb qb : Nat} {t1 t2 : Value} {c d : Cl}
theorem Reg.later (h : Reg base top W tb rb pb qb t1 t2 c d) (hb : Below W.heap.size W W') : Reg base top W' tb rb pb qb t1 t2 c d :=
  ⟨h.tab.below hb h.tab.lt, h.p.below hb h.p.lt, h.q.below hb h.q.lt, h.lo, h.hp, h.hq⟩
theorem Reg.grown (h : Reg base top W tb rb pb qb t1 t2 c d) {row : Option Nat} (hg : W.grownBy W' row) (hne : ∀ b, row = some b → base ≤ b ∧ b < top) : Reg base top W' tb rb pb qb t1 t2 c d :=
  ⟨far_box h.tab hg hne (.inl h.lo), far_box h.p hg hne (.inr h.hp), far_box h.q hg hne (.inr h.hq), h.lo, h.hp, h.hq⟩
theorem Reg.T (h : Reg base top W tb rb pb qb t1 t2 c d) : W.cell? ⟨tb, 2, none⟩ = some (.slice (some ⟨rb, 0, none⟩) 2 2) := h.tab.cell 2 rfl
theorem Reg.S (h : Reg base top W tb rb pb qb t1 t2 c d) {w0 ws : World} {cb : Nat} {ct : TypeId} {cnt : Nat → Nat} {n1 n2 : ByteArray} {x1 x2 v1 v2 : Value} {l1 l2 : List Cl} (hs : PassSt w0 ws W cb rb base ct cnt n1 n2 x1 x2 v1 v2 l1 l2) :
    W.cell? ⟨rb, 1, none⟩ = some x1 ∧ W.cell? ⟨rb, 3, none⟩ = some x2 ∧ W.cell? ⟨pb, 0, none⟩ = some (.bool c.null) ∧ W.cell? ⟨pb, 1, none⟩ = some (.string c.text) ∧ W.cell? ⟨qb, 0, none⟩ = some (.bool d.null) ∧ W.cell? ⟨qb, 1, none⟩ = some (.string d.text) :=
  ⟨hs.row.cell 1 rfl, hs.row.cell 3 rfl, h.p.cell 0 rfl, h.p.cell 1 rfl, h.q.cell 0 rfl, h.q.cell 1 rfl⟩
theorem Reg.put (h : Reg base top W tb rb pb qb t1 t2 c d) (hne : tb ≠ rb) (i : Nat) (v : Value) : (W.setCell ⟨rb, i, none⟩ v).cell? ⟨tb, 2, none⟩ = some (.slice (some ⟨rb, 0, none⟩) 2 2) := by
  rw [World.cell?_setCell_other _ _ _ _ (by intro e; cases e; exact hne rfl)]
  exact h.T
end
theorem own_far {base top : Nat} {W : World} {e : TypeId} {k n : Nat} {v : Value} {xs : List Value} (h : W.ownsRow base e k v n xs) (ht : W.heap.size ≤ top) : ∀ b, v.ownBlock = some b → base ≤ b ∧ b < top := fun b hb => by
  have := h.lt b hb
  omega

/-- the boxes of the two cells of a round -/
structure QBox (W1 W : World) (c d : Cl) : Prop where
  bel : Below W1.heap.size W1 W
  p : BoxN W (W1.heap.size + 1) 58 #[.bool c.null, .string c.text]
  q : BoxN W (W1.heap.size + 2) 58 #[.bool d.null, .string d.text]
theorem qbox_at (W1 : World) (o : Obj) (cp cq : Array Value) (c d : Cl) (hp : cp = #[.bool c.null, .string c.text]) (hq : cq = #[.bool d.null, .string d.text]) : QBox W1 (((W1.alloc o).alloc (.cells cp 58)).alloc (.cells cq 58)) c d := by
  subst hp hq
  refine ⟨(((Below.refl _ _).alloc (Nat.le_refl _) _).alloc (by simp) _).alloc (by simp; omega) _, ?_, ?_⟩
  · have h := BoxN.new (W1.alloc o) #[.bool c.null, .string c.text] 58
    rw [World.size_alloc] at h
    exact h.alloc _
  · have h := BoxN.new ((W1.alloc o).alloc (.cells #[.bool c.null, .string c.text] 58)) #[.bool d.null, .string d.text] 58
    rw [World.size_alloc, World.size_alloc] at h
    exact h
theorem QBox.alloc {W1 W : World} {c d : Cl} (h : QBox W1 W c d) (o : Obj) : QBox W1 (W.alloc o) c d := ⟨h.bel.alloc h.bel.size o, h.p.alloc o, h.q.alloc o⟩

theorem take_snoc {A : List Nat} {q : Nat} (h : q < A.length) : A.take (q + 1) = A.take q ++ [A.getD q 0] := by
  rw [List.take_succ_eq_append_getElem h]
  simp [List.getD, h]
/-- the counts in the first pass -/
def cntA (l : List Nat) (j : Nat) : Nat := if j < 9 then cnt9 l j else 0
/-- the counts in the second pass -/
def cntB (a l : List Nat) (j : Nat) : Nat := if j < 9 then cnt9 a j else cnt9 l (j - 9)

theorem cntA_step {l : List Nat} {v m cm : Nat} (hm : v % 9 = m) (h9 : m < 9) (hc : cntA l m = cm) (i : Nat) : (if i = m then cm + 1 else cntA l i) = cntA (l ++ [v]) i := by
  unfold cntA at *
  rw [if_pos h9] at hc
  by_cases hi9 : i < 9
  · rw [if_pos hi9, if_pos hi9, cnt9_snoc, hm]
    by_cases e : i = m
    · subst e
      rw [if_pos rfl, if_pos rfl, hc]
    · rw [if_neg e, if_neg (fun h => e h.symm), Nat.add_zero]
  · rw [if_neg hi9, if_neg hi9, if_neg (by omega)]
theorem cntB_step {a l : List Nat} {v m cm : Nat} (hm : v % 9 = m) (h9 : m < 9) (hc : cntB a l (9 + m) = cm) (i : Nat) : (if i = 9 + m then cm + 1 else cntB a l i) = cntB a (l ++ [v]) i := by
  unfold cntB at *
  rw [if_neg (by omega), Nat.add_sub_cancel_left] at hc
  by_cases hi9 : i < 9
  · rw [if_pos hi9, if_pos hi9, if_neg (by omega)]
  · rw [if_neg hi9, if_neg hi9, cnt9_snoc, hm]
    by_cases e : i = 9 + m
    · subst e
      rw [if_pos rfl, Nat.add_sub_cancel_left, if_pos rfl, hc]
    · rw [if_neg e, if_neg (by omega), Nat.add_zero]

theorem cntB_nil (a : List Nat) : cntB a [] = cntA a := by
  funext j
  unfold cntB cntA
  by_cases h : j < 9
  · rw [if_pos h, if_pos h]
  · rw [if_neg h, if_neg h]; rfl
theorem pass_begin {w W : World} {cb rb base : Nat} {ct : TypeId} {cnt : Nat → Nat} {n1 n2 : ByteArray} (hbel : Below w.heap.size w W) (hb : base ≤ W.heap.size) (hcnt : W.rowIs cb ct 18 (fun j => .int .i64 (cnt j : Int)))
    (hrow : BoxN W rb 30 #[.string n1, .slice none 0 0, .string n2, .slice none 0 0]) : PassSt w W W cb rb base ct cnt n1 n2 (.slice none 0 0) (.slice none 0 0) (.slice none 0 0) (.slice none 0 0) [] [] :=
  ⟨hbel, fun _ _ _ _ => rfl, hb, hcnt, hrow, World.ownsRow_nil _ _ _ _, World.ownsRow_nil _ _ _ _, fun k hk => by simp [Value.ownBlock] at hk⟩
theorem counts_zero {W : World} {cb : Nat} {t : TypeId} (h : BoxN W cb t #[.int .i64 0, .int .i64 0, .int .i64 0, .int .i64 0, .int .i64 0, .int .i64 0, .int .i64 0, .int .i64 0, .int .i64 0, .int .i64 0, .int .i64 0, .int .i64 0, .int .i64 0, .int .i64 0, .int .i64 0, .int .i64 0, .int .i64 0, .int .i64 0]) :
    W.rowIs cb t 18 (fun j => .int .i64 ((cntA [] j : Nat) : Int)) := by
  refine ⟨_, h, rfl, fun i hi => ?_⟩
  have e : cntA [] i = 0 := by unfold cntA cnt9; split <;> rfl
  show _ = some (Value.int .i64 ((cntA [] i : Nat) : Int))
  rw [e]
  have : ∀ j, j < 18 → (#[.int .i64 0, .int .i64 0, .int .i64 0, .int .i64 0, .int .i64 0, .int .i64 0, .int .i64 0, .int .i64 0, .int .i64 0, .int .i64 0, .int .i64 0, .int .i64 0, .int .i64 0, .int .i64 0, .int .i64 0, .int .i64 0, .int .i64 0, .int .i64 0] : Array Value)[j]? = some (.int .i64 0) := fun j hj => by
    have h18 : ∀ j, j < 18 → (#[Value.int .i64 0, .int .i64 0, .int .i64 0, .int .i64 0, .int .i64 0, .int .i64 0, .int .i64 0, .int .i64 0, .int .i64 0, .int .i64 0, .int .i64 0, .int .i64 0, .int .i64 0, .int .i64 0, .int .i64 0, .int .i64 0, .int .i64 0, .int .i64 0] : Array Value).toList = List.replicate 18 (Value.int .i64 0) := fun _ _ => rfl
    have := h18 j hj
    rw [← Array.getElem?_toList, this, List.getElem?_replicate, if_pos hj]
  exact this i hi
theorem rd_two {W : World} {rb base : Nat} {n1 n2 : ByteArray} {v1 v2 : Value} {l1 l2 : List Cl} (hr : BoxN W rb 30 #[.string n1, v1, .string n2, v2])
    (h1 : W.ownsRow base 58 2 v1 l1.length (flatK 2 l1.length (clF l1))) (h2 : W.ownsRow base 58 2 v2 l2.length (flatK 2 l2.length (clF l2))) :
    RdCo W (· < W.heap.size) (.slice (some ⟨rb, 0, none⟩) 2 2) [⟨n1, l1⟩, ⟨n2, l2⟩] := by
  refine ⟨fun i => if i = 0 then v1 else v2, ⟨_, 2, rfl, Nat.le_refl _, by unfold maxLen; omega, fun _ => ⟨rb, 0, rfl, hr.lt, ?_⟩⟩, ?_⟩
  · intro i hi j hj
    have hi2 : i < 2 := hi
    obtain rfl | rfl : i = 0 ∨ i = 1 := by omega
    · obtain rfl | rfl : j = 0 ∨ j = 1 := by omega
      · exact hr.cell 0 rfl
      · exact hr.cell 1 rfl
    · obtain rfl | rfl : j = 0 ∨ j = 1 := by omega
      · exact hr.cell 2 rfl
      · exact hr.cell 3 rfl
  · intro i hi
    have hi2 : i < 2 := hi
    obtain rfl | rfl : i = 0 ∨ i = 1 := by omega
    · exact (rdCl_of_own h1).more fun b hb => hb.2
    · exact (rdCl_of_own h2).more fun b hb => hb.2
theorem pC_ok (v : Nat) : CellOk (pC v) := by
  unfold pC
  refine cellOk_text ?_
  obtain h | h | h : v % 3 = 0 ∨ v % 3 = 1 ∨ v % 3 = 2 := by omega
  all_goals (rw [h]; unfold TextOk; decide +kernel)
theorem qC_ok (v : Nat) : CellOk (qC v) := by
  unfold qC
  split
  · exact cellOk_null
  · refine cellOk_text ?_
    obtain h | h | h : v / 3 % 3 = 0 ∨ v / 3 % 3 = 1 ∨ v / 3 % 3 = 2 := by omega
    all_goals (rw [h]; unfold TextOk; decide +kernel)
theorem one_ok : TextOk 1024 ⟨#[110]⟩ ∧ TextOk 1024 ⟨#[109]⟩ ∧ TextOk 1024 ⟨#[]⟩ := by unfold TextOk; decide +kernel
theorem tab_two {i : Int} (hi : 0 ≤ i ∧ i ≤ 2) {n1 n2 : ByteArray} (h1 : TextOk 1024 n1) (h2 : TextOk 1024 n2) (a : List Nat) (ha : a.length ≤ 30) (f g : Nat → Cl) (hf : ∀ v, CellOk (f v)) (hg : ∀ v, CellOk (g v)) :
    TabV ⟨i, ⟨#[]⟩, [⟨n1, a.map f⟩, ⟨n2, a.map g⟩]⟩ := by
  refine ⟨hi.1, by have := hi.2; show i ≤ 1073741824; omega, one_ok.2.2, by simp, a.length, by omega, fun x hx => ?_⟩
  rcases List.mem_cons.1 hx with rfl | hx
  · refine ⟨h1, by simp, fun c hc => ?_⟩
    obtain ⟨v, -, rfl⟩ := List.mem_map.1 hc
    exact hf v
  · obtain rfl := List.mem_singleton.1 hx
    refine ⟨h2, by simp, fun c hc => ?_⟩
    obtain ⟨v, -, rfl⟩ := List.mem_map.1 hc
    exact hg v
theorem tabX_ok (a : List Nat) (h : a.length ≤ 30) : TabV ⟨1, ⟨#[]⟩, tX a⟩ := tab_two ⟨by omega, by omega⟩ one_ok.1 one_ok.2.1 a h pC qC pC_ok qC_ok
theorem tabY_ok (a : List Nat) (h : a.length ≤ 30) : TabV ⟨2, ⟨#[]⟩, tY a⟩ := tab_two ⟨by omega, by omega⟩ one_ok.2.1 one_ok.1 a h qC pC qC_ok pC_ok
theorem minSum_le {f g : Nat → Nat} {m : Nat} (h : ∀ i, f i ≤ m) : ∀ N, minSum N f g ≤ m * N
  | 0 => by simp [minSum]
  | N + 1 => by
    rw [minSum_succ, Nat.mul_succ]
    have := minSum_le (g := g) h N
    have := h N
    omega

end Go.Proofs.YtfcccldofaleoaaGreatDoor
