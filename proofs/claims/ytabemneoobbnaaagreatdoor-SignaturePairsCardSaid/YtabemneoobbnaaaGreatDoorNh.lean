/- Contract of the reference's index of columns. -/
import Derived.Test.YtabemneoobbnaaaGreatDoorNg
namespace Go.Proofs.YtabemneoobbnaaaGreatDoor
open Go.RowKit

theorem wpList_append_zero {P : Program} {w : World} {ops : Array Oper} {rest : List Oper} {o : Oper} {a : Act} {Q : Exit → Act → World → Prop} (hgd : o.guard = none) (s x : Operand) (t tx : TypeId)
    (ho : o.op = .call { callee := .builtin .append, args := #[s, x], argTypes := #[t, tx] }) (e e' : TypeId) (i : TypeInfo) (ht : P.underlying t = some (.slice e)) (hk : P.underlying tx = some (.slice e')) (hi : P.info? e = some i)
    (base : Option Addr) (n cap : Nat) (hs : a.eval s = .slice base n cap) (hn : n ≤ cap) (ao : Option Addr) (m c : Nat) (hm : m = 0) (hx : a.eval x = .slice ao m c)
    (h : wpList P ops Q rest (a.put o.dst (.slice base n cap)) w) : wpList P ops Q (o :: rest) a w := by
  subst hm
  refine wpList_plain hgd fun _ hK => ?_
  have hr : (Builtin.append_ #[t, tx] o.type #[.slice base n cap, .slice ao 0 c]).run P w = .ok (.slice base n cap) w := by
    rw [append_types w ht hk]; exact run_append_empty w ht hi base n cap c hn ao
  unfold Oper.wp execOp
  simp only [ho, resolve, invoke, builtin, Sem.run_bind, Sem.run_pure, Result.andThen_ok, List.map_toArray, List.map_cons, List.map_nil, hs, hx, hr]
  exact hK _ _ h

theorem info_ent : (Tryz.prog.info? 49).map (fun i => (i.zero, i.size, i.bytes)) = some (some (.agg #[.int .i64 0, .int .i64 0, .int .i64 0]), 3, 24) := by kernel_rfl
theorem info_int' : (Tryz.prog.info? 3).map (fun i => (i.zero, i.size, i.bytes)) = some (some (.int .i64 0), 1, 8) := by kernel_rfl
theorem info_sl : (Tryz.prog.info? 30).map (fun i => (i.zero, i.size, i.bytes)) = some (some (.slice none 0 0), 1, 24) := by kernel_rfl

/-- the state of the first loop -/
structure IxA (w0 ws w : World) (xb base : Nat) (ev al : Value) (es : List ((Int × Nat) × Nat)) (ss : List ByteArray) : Prop where
  box : BoxN w xb 40 #[ev, .slice none 0 0, .slice none 0 0]
  ents : w.ownsRow base 49 3 ev es.length (flatK 3 es.length (entF es))
  all : w.ownsRow base 9 1 al ss.length (ss.map Value.string)
  below : Below w0.heap.size w0 w
  low : base ≤ w.heap.size
  keep : ∀ k, k < base → k ≠ xb → w.heap[k]? = ws.heap[k]?
section
variable {w0 ws w w' : World} {xb base : Nat} {ev al : Value} {es : List ((Int × Nat) × Nat)} {ss : List ByteArray}
theorem IxA.alloc (h : IxA w0 ws w xb base ev al es ss) (hx : w0.heap.size ≤ xb) (hb : xb < base) (O : Obj) : IxA w0 ws (w.alloc O) xb base ev al es ss :=
  ⟨h.box.alloc O, h.ents.alloc O, h.all.alloc O, h.below.alloc (by have := h.low; omega) O, by rw [World.size_alloc]; exact Nat.le_succ_of_le h.low, fun k h1 h2 => (Below.heap_alloc w O k (Nat.lt_of_lt_of_le h1 h.low)).trans (h.keep k h1 h2)⟩
theorem IxA.push (h : IxA w0 ws w xb base ev al es ss) {x : (Int × Nat) × Nat} {p m cap : Nat} (hm : m = es.length + 1)
    (hown : w'.ownsRow base 49 3 (.slice (some ⟨p, 0, none⟩) m cap) m (flatK 3 es.length (entF es) ++ [.int .i64 x.1.1, .int .i64 (x.1.2 : Int), .int .i64 (x.2 : Int)])) (hgr : w.grownBy w' ev.ownBlock) (hcb : xb < base) (hc0 : w0.heap.size ≤ xb) :
    IxA w0 ws (w'.setCell ⟨xb, 0, none⟩ (.slice (some ⟨p, 0, none⟩) m cap)) xb base (.slice (some ⟨p, 0, none⟩) m cap) al (es ++ [x]) ss := by
  have hv : ∀ k, ev.ownBlock = some k → base ≤ k := fun k hk => (h.ents.lt k hk).1
  have hlo := h.low
  have hx' : ∀ k, k < base → w'.heap[k]? = w.heap[k]? := fun k hk => hgr.block k (by omega) (fun e => by have := hv k e.symm; omega)
  subst hm
  refine ⟨(show BoxN w' xb _ _ from (hx' xb hcb).trans h.box).set 0 _, ?_, ownsRow_setCell_below (h.all.kept hgr (own_apart h.all h.ents (by decide))) hcb _, ?_, by have := hgr.size; simp; omega, fun k h1 h2 => (Below.heap_setCell _ _ _ _ h2).trans ((hx' k h1).trans (h.keep k h1 h2))⟩
  · have h1 := ownsRow_setCell_below hown hcb (a := ⟨xb, 0, none⟩) (.slice (some ⟨p, 0, none⟩) (es.length + 1) cap)
    rw [ent_push es x] at h1
    rw [List.length_append, List.length_singleton] at h1 ⊢
    exact h1
  · refine h.below.trans ⟨hgr.os, hgr.tape, hgr.output, by have := hgr.size; simpa using this, fun k hk => (Below.heap_setCell _ _ _ _ (by show k ≠ xb; omega)).trans (hx' k (by omega))⟩
theorem IxA.more (h : IxA w0 ws w xb base ev al es ss) {al' : Value} {ss' : List ByteArray} (hown : w'.ownsRow base 9 1 al' ss'.length (ss'.map Value.string)) (hgr : w.grownBy w' al.ownBlock) (hcb : xb < base) (hc0 : w0.heap.size ≤ xb) :
    IxA w0 ws w' xb base ev al' es ss' := by
  have hv : ∀ k, al.ownBlock = some k → base ≤ k := fun k hk => (h.all.lt k hk).1
  have hlo := h.low
  have hx' : ∀ k, k < base → w'.heap[k]? = w.heap[k]? := fun k hk => hgr.block k (by omega) (fun e => by have := hv k e.symm; omega)
  exact ⟨(hx' xb hcb).trans h.box, h.ents.kept hgr (own_apart h.ents h.all (by decide)), hown, h.below.trans ⟨hgr.os, hgr.tape, hgr.output, hgr.size, fun k hk => hx' k (by omega)⟩, by have := hgr.size; omega, fun k h1 h2 => (hx' k h1).trans (h.keep k h1 h2)⟩
end

theorem own_caps' {w : World} {base : Nat} {e : TypeId} {size n : Nat} {v : Value} {xs : List Value} (h : w.ownsRow base e size v n xs) : ∀ a m c, v = .slice a m c → n ≤ c := by
  intro a m c hv
  rcases h.2 with ⟨h, h0⟩ | ⟨g', cap', cur, h, hb, hg, hn, hm, hs, ht⟩
  · omega
  · rw [hv] at h
    obtain ⟨_, _, rfl⟩ := Value.slice.inj h
    exact hn
theorem src_of_inS {w W : World} {B n vc : Nat} {va : Option Addr} {vs : List ByteArray} (h : InS w (· < B) (.slice va n vc) vs) (hW : Below w.heap.size w W) (hB : B ≤ w.heap.size) :
    0 < n → ∃ ad, va = some ad ∧ ∀ j u, (vs.map Value.string)[j]? = some u → W.cell? (ad.add j) = some u := by
  intro hn
  obtain ⟨a, c, e, -, -, h⟩ := h
  obtain ⟨rfl, rfl, rfl⟩ := Value.slice.inj e
  obtain ⟨b, o, rfl, hb, hc⟩ := h hn
  have hb' : b < B := hb
  refine ⟨_, rfl, fun j u hu => ?_⟩
  have hj : j < vs.length := by have := (List.getElem?_eq_some_iff.1 hu).1; simpa using this
  rw [Addr.add_lit]
  refine (hW.cell (p := ⟨b, o + j, none⟩) (by show b < _; omega)).trans ?_
  have h1 := hc j hj 0 (by omega)
  simp only [Nat.mul_one, Nat.add_zero] at h1
  rw [h1, ← hu]
  simp [strF, List.getD, hj]

/-- the state of the second loop -/
structure IxB (w0 ws w : World) (xb base : Nat) (ev vv lv : Value) (es : List ((Int × Nat) × Nat)) (vs : List ByteArray) (ls : List (List Nat)) : Prop where
  box : BoxN w xb 40 #[ev, vv, lv]
  ents : w.ownsRow base 49 3 ev es.length (flatK 3 es.length (entF es))
  vals : w.ownsRow base 9 1 vv vs.length (vs.map Value.string)
  lists : ∃ f : Nat → Value, Nest 1 w base 30 lv ls.length (fun i _ => f i) (fun i W S => InN W S (f i) (ls.getD i []))
  below : Below w0.heap.size w0 w
  low : base ≤ w.heap.size
  keep : ∀ k, k < base → k ≠ xb → w.heap[k]? = ws.heap[k]?
section
variable {w0 ws w w' : World} {xb base : Nat} {ev vv lv : Value} {es : List ((Int × Nat) × Nat)} {vs : List ByteArray} {ls : List (List Nat)}
theorem IxB.later (h : IxB w0 ws w xb base ev vv lv es vs ls) (hb : Below w.heap.size w w') (hp : 0 < base) : IxB w0 ws w' xb base ev vv lv es vs ls := by
  have hr := Roll.of_below hb 0
  obtain ⟨f, hf⟩ := h.lists
  exact ⟨h.box.below hb h.box.lt, own_roll h.ents hr (Nat.le_refl _) hp, own_roll h.vals hr (Nat.le_refl _) hp, ⟨f, hf.below (fun i _ => keeps_n _ _) hb (Nat.le_refl _) hp⟩, h.below.trans (hb.mono h.below.size), Nat.le_trans h.low hb.size,
    fun k h1 h2 => (hb.block k (Nat.lt_of_lt_of_le h1 h.low)).trans (h.keep k h1 h2)⟩
theorem IxB.push (h : IxB w0 ws w xb base ev vv lv es vs ls) {x : List Nat} {L : List Value} {u : Value} {p m cap : Nat} (hm : m = ls.length + 1) (hL : w.ownsRow base 30 1 lv ls.length L)
    (hown : w'.ownsRow base 30 1 (.slice (some ⟨p, 0, none⟩) m cap) m (L ++ [u])) (hgr : w.grownBy w' lv.ownBlock) (hat : lv.ownBlock = some p ∨ p = w.heap.size) (hnew : InN w (Own w base lv) u x) (hcb : xb < base) (hc0 : w0.heap.size ≤ xb) :
    IxB w0 ws (w'.setCell ⟨xb, 2, none⟩ (.slice (some ⟨p, 0, none⟩) m cap)) xb base ev vv (.slice (some ⟨p, 0, none⟩) m cap) es vs (ls ++ [x]) := by
  have hv : ∀ k, lv.ownBlock = some k → base ≤ k := fun k hk => (hL.lt k hk).1
  have hlo := h.low
  have hx' : ∀ k, k < base → w'.heap[k]? = w.heap[k]? := fun k hk => hgr.block k (by omega) (fun e => by have := hv k e.symm; omega)
  obtain ⟨f, hf⟩ := h.lists
  have hLL := own_same hL hf.row
  subst hLL
  subst hm
  refine ⟨(show BoxN w' xb _ _ from (hx' xb hcb).trans h.box).set 2 _, ownsRow_setCell_below (h.ents.kept hgr (own_apart h.ents hf.row (by decide))) hcb _, ownsRow_setCell_below (h.vals.kept hgr (own_apart h.vals hf.row (by decide))) hcb _, ⟨fun i => if i = ls.length then u else f i, ?_⟩, ?_, by have := hgr.size; simp; omega, fun k h1 h2 => (Below.heap_setCell _ _ _ _ h2).trans ((hx' k h1).trans (h.keep k h1 h2))⟩
  · rw [List.length_append, List.length_singleton]
    refine (hf.push (fun i _ => keeps_n _ _) hown hgr hat ?_ (keeps_n _ _) ?_ ?_ ?_).setCell (fun i _ => keeps_n _ _) hcb _
    · simpa [List.getD] using hnew
    · intro i hi j hj
      have : i ≠ ls.length := by omega
      simp [this]
    · simp [List.range_succ]
    · intro i hi
      have : i ≠ ls.length := by omega
      simp [List.getD, List.getElem?_append_left hi, this]
  · refine h.below.trans ⟨hgr.os, hgr.tape, hgr.output, by have := hgr.size; simpa using this, fun k hk => (Below.heap_setCell _ _ _ _ (by show k ≠ xb; omega)).trans (hx' k (by omega))⟩
end

def IndexP (w : World) (x : Ix) (e : Ending) (w' : World) : Prop :=
  ∃ ev vv lv, e = .returned (.agg #[ev, vv, lv]) ∧ RdIx w' (News w w') ev vv lv x ∧ Below w.heap.size w w'

end Go.Proofs.YtabemneoobbnaaaGreatDoor
