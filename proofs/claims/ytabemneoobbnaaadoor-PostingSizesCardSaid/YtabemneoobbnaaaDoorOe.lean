/- posting.indexed: the state of its first loop. -/
import Derived.Test.YtabemneoobbnaaaDoorOd
namespace Go.Proofs.YtabemneoobbnaaaDoor
open Go.RowKit

/-- a look-up in a map of groups, inside a region that draws -/
theorem step_lookup_groups {P : Program} {w : World} {ops : Array Oper} {o : Oper} {a : Act} {K' : Act → World → Prop} {Q : Exit → Act → World → Prop} {E' : Prop} (hgd : o.guard = none) (m x : Operand) (t : TypeId) (hop : o.op = Op.lookup t m x false)
    (k E e : TypeId) (K : Go.Maps.Keyed P k) (ht : P.underlying t = some (.map k E)) (hz : (zeroValue E).run P w = .ok (.slice none 0 0) w) (base b n : Nat) (D : DataW Unit)
    (hm : a.eval m = .map (some b)) (hown : w.ownsGroups P k base e .i64 b n D) (hn : n < maxLen) (key : Value) (kl : Lit) (hx : a.eval x = key) (hkey : keyOf P k key = some kl)
    (h : ∀ v zs, D.atKey kl .nil = rowDatum .i64 v zs → w.ownsInts base e .i64 v zs → K' (a.put o.dst v) w) :
    if Region.wanted o (yielded ops a.tmps) = true then Oper.wp P o a w K' Q else E' := by
  have hw : Region.wanted o (yielded ops a.tmps) = true := by simp [Region.wanted, hgd]
  rw [if_pos hw]
  obtain ⟨v, zs, hrun, hat, hoi, -, -⟩ := hown.at K ht hz hn hkey
  unfold Oper.wp
  simp [execOp, hop, hm, hx, hrun, Result.andThen]
  exact h v zs hat hoi

/-- entries and groups that grow -/
structure IxSt (w3 wr : World) (ib mb : Nat) (ve : Value) (es : List ((Int × Nat) × Nat)) (K : Nat) (F : ByteArray → List Nat) : Prop where
  os : wr.os = w3.os
  tape : wr.tape = w3.tape
  output : wr.output = w3.output
  size : w3.heap.size ≤ wr.heap.size
  keep : ∀ k, k < w3.heap.size → k ≠ ib → k ≠ mb → wr.heap[k]? = w3.heap[k]?
  box : BoxN wr ib 30 #[ve, .slice none 0 0, .slice none 0 0]
  own : wr.ownsRow w3.heap.size 37 3 ve es.length (flatK 3 es.length (entF es))
  grp : ∃ D : DataW Unit, wr.ownsGroups Tryd.prog 9 w3.heap.size 3 .i64 mb K D ∧ GrpOk D F
  lows : ib < mb ∧ mb < w3.heap.size
section
variable {w3 wr w' : World} {ib mb K : Nat} {ve : Value} {es : List ((Int × Nat) × Nat)} {F F' : ByteArray → List Nat}
theorem IxSt.start {w : World} (hb : BoxN w ib 30 #[.slice none 0 0, .slice none 0 0, .slice none 0 0]) : IxSt (w.alloc (.map #[] 0)) (w.alloc (.map #[] 0)) ib w.heap.size (.slice none 0 0) [] 0 (fun _ => []) :=
  ⟨rfl, rfl, rfl, Nat.le_refl _, fun _ _ _ _ => rfl, hb.alloc _, World.ownsRow_nil _ _ _ _, ⟨_, by rw [World.size_alloc]; exact World.ownsGroups_made w _ _ _ _, GrpOk.start⟩, hb.lt, by simp⟩
theorem IxSt.congr (h : IxSt w3 wr ib mb ve es K F) (e : ∀ s, F s = F' s) : IxSt w3 wr ib mb ve es K F' := by
  have : F = F' := funext e
  subst this
  exact h
theorem IxSt.later (h : IxSt w3 wr ib mb ve es K F) (hb : Below wr.heap.size wr w') : IxSt w3 w' ib mb ve es K F := by
  have hg : wr.grownBy w' none := ⟨hb.os, hb.tape, hb.output, hb.size, fun k hk _ => hb.block k hk⟩
  obtain ⟨D, h1, h2⟩ := h.grp
  refine ⟨hb.os.trans h.os, hb.tape.trans h.tape, hb.output.trans h.output, Nat.le_trans h.size hb.size, fun k h3 h4 h5 => (hb.block k (Nat.lt_of_lt_of_le h3 h.size)).trans (h.keep k h3 h4 h5), h.box.below hb h.box.lt, h.own.kept hg ?_, ⟨D, h1.kept hg (by simp) (fun es clock _ x _ => ?_), h2⟩, h.lows⟩
  · cases ve.ownBlock <;> simp
  · cases x.val.ownBlock <;> simp
theorem IxSt.ent (h : IxSt w3 wr ib mb ve es K F) {p m cap : Nat} {x : (Int × Nat) × Nat} (hm : m = es.length + 1)
    (hown : w'.ownsRow w3.heap.size 37 3 (.slice (some ⟨p, 0, none⟩) m cap) m (flatK 3 es.length (entF es) ++ [.int .i64 x.1.1, .int .i64 (x.1.2 : Int), .int .i64 (x.2 : Int)])) (hg : wr.grownBy w' ve.ownBlock) :
    IxSt w3 (w'.setCell ⟨ib, 0, none⟩ (.slice (some ⟨p, 0, none⟩) m cap)) ib mb (.slice (some ⟨p, 0, none⟩) m cap) (es ++ [x]) K F := by
  obtain ⟨D, h1, h2⟩ := h.grp
  have hv : ∀ k, ve.ownBlock = some k → w3.heap.size ≤ k := fun k hk => (h.own.lt k hk).1
  have hx : ∀ k, k < w3.heap.size → w'.heap[k]? = wr.heap[k]? := fun k hk => hg.block k (Nat.lt_of_lt_of_le hk h.size) (fun e => by have := hv k e.symm; omega)
  obtain ⟨l1, l2⟩ := h.lows
  have hg2 : w'.grownBy (w'.setCell ⟨ib, 0, none⟩ (.slice (some ⟨p, 0, none⟩) m cap)) (some ib) := ⟨rfl, rfl, rfl, by simp, fun k _ hk => Below.heap_setCell _ _ _ _ (fun e => hk (by rw [e]))⟩
  have h1' := h1.kept hg (fun e => by have := hv mb e.symm; omega) (groups_apart h1 h.own (by decide))
  refine ⟨hg.os.trans h.os, hg.tape.trans h.tape, hg.output.trans h.output, by have := hg.size; have := h.size; simp; omega, fun k h3 h4 h5 => (Below.heap_setCell _ _ _ _ h4).trans ((hx k h3).trans (h.keep k h3 h4 h5)), (show BoxN w' ib _ _ from (hx ib (by omega)).trans h.box).set 0 _, ?_, ⟨D, h1'.kept hg2 (fun e => by cases e; omega) (h1'.rowsAbove fun j hj => by cases hj; omega), h2⟩, h.lows⟩
  have e1 := ent_push es x
  rw [List.length_append, List.length_singleton, ← hm] at e1 ⊢
  rw [← e1]
  exact ownsRow_setCell_below hown (by show ib < w3.heap.size; omega) _
theorem IxSt.val (h : IxSt w3 wr ib mb ve es K F) {w1 w2 : World} {D' : DataW Unit} {v : Value} {zs : List Int} (ho : wr.ownsInts w3.heap.size 3 .i64 v zs) (hg : wr.grownBy w1 v.ownBlock) (hg2 : w1.grownBy w2 (some mb))
    (h1 : w2.ownsGroups Tryd.prog 9 w3.heap.size 3 .i64 mb (K + 1) D') (h2 : GrpOk D' F') : IxSt w3 w2 ib mb ve es (K + 1) F' := by
  have hv : ∀ k, v.ownBlock = some k → w3.heap.size ≤ k := fun k hk => (ho.1.lt k hk).1
  have hx : ∀ k, k < w3.heap.size → k ≠ mb → w2.heap[k]? = wr.heap[k]? := fun k hk hkm => (hg2.block k (Nat.lt_of_lt_of_le hk (Nat.le_trans h.size hg.size)) (fun e => by cases e; exact hkm rfl)).trans (hg.block k (Nat.lt_of_lt_of_le hk h.size) (fun e => by have := hv k e.symm; omega))
  obtain ⟨l1, l2⟩ := h.lows
  refine ⟨hg2.os.trans (hg.os.trans h.os), hg2.tape.trans (hg.tape.trans h.tape), hg2.output.trans (hg.output.trans h.output), Nat.le_trans h.size (Nat.le_trans hg.size hg2.size), fun k h3 h4 h5 => (hx k h3 h5).trans (h.keep k h3 h4 h5), (show BoxN w2 ib _ _ from (hx ib (by omega) (by omega)).trans h.box), ?_, ⟨D', h1, h2⟩, h.lows⟩
  refine (h.own.kept hg (own_apart h.own ho.1 (by decide))).kept hg2 ?_
  cases hb : ve.ownBlock with
  | none => exact .inl rfl
  | some k =>
    have := (h.own.lt k hb).1
    right
    intro e
    cases e
    omega
end

end Go.Proofs.YtabemneoobbnaaaDoor
