/- Words for operations, and lists of lists of them, in memory. No program in sight. Words for links, and for origins of tables, in memory. No program in sight. Contracts of lineage.cells, lineage.greater, at tables that can be read. -/
import Derived.Test.YtaajpliifdlokaaGreatDoorLnNrae
import Derived.Test.YtaajpliifdlokaaGreatDoorLnNrag
import Derived.Test.YtaajpliifdlokaaGreatDoorLnNrac
import Derived.Test.YtaajpliifdlokaaGreatDoorLnNrad
import Derived.Test.YtaajpliifdlokaaGreatDoorLnNraf
set_option linter.unusedVariables false
set_option linter.unusedSimpArgs false
namespace Go.Proofs.YtaajpliifdlokaaGreatDoor
open Go.RowKit
def Po.z : Po := ⟨0, 0, ⟨#[]⟩, []⟩
def zF (ks : List Int) (j _i : Nat) : Value := .int .i64 (ks.getD j 0)
def poC (o : Po) (u : Value) : Nat → Value
  | 0 => .int .i64 o.kind
  | 1 => .int .i64 o.col
  | 2 => .string o.text
  | _ => u
def poF (os : List Po) (uv : Nat → Value) (i : Nat) : Nat → Value := poC (os.getD i Po.z) (uv i)
def RdKs (w : World) (S : Nat → Prop) (v : Value) (ks : List Int) : Prop := InK 1 w S v ks.length (zF ks)
def RdPo (w : World) (S : Nat → Prop) (v : Value) (os : List Po) : Prop :=
  ∃ uv, InK 4 w S v os.length (poF os uv) ∧ ∀ i, i < os.length → RdKs w S (uv i) (os.getD i Po.z).cols
def vF (vv : Nat → Value) (i _j : Nat) : Value := vv i
def RdPs (w : World) (S : Nat → Prop) (v : Value) (fs : List (List Po)) : Prop :=
  ∃ vv, InK 1 w S v fs.length (vF vv) ∧ ∀ i, i < fs.length → RdPo w S (vv i) (fs.getD i [])
section
variable {w w' : World} {S S' : Nat → Prop} {v : Value} {ks : List Int} {os : List Po} {fs : List (List Po)}
theorem RdPo.keep (h : RdPo w S v os) (hk : ∀ p : Addr, S p.block → w'.cell? p = w.cell? p) : RdPo w' S v os := by
  obtain ⟨uv, h1, h2⟩ := h
  exact ⟨uv, h1.keep hk, fun i hi => InK.keep (h2 i hi) hk⟩
theorem RdPo.more (h : RdPo w S v os) (hS : ∀ b, S b → S' b) : RdPo w S' v os := by
  obtain ⟨uv, h1, h2⟩ := h
  exact ⟨uv, h1.more hS, fun i hi => InK.more (h2 i hi) hS⟩
theorem RdPs.keep (h : RdPs w S v fs) (hk : ∀ p : Addr, S p.block → w'.cell? p = w.cell? p) : RdPs w' S v fs := by
  obtain ⟨uv, h1, h2⟩ := h
  exact ⟨uv, h1.keep hk, fun i hi => (h2 i hi).keep hk⟩
theorem RdPs.more (h : RdPs w S v fs) (hS : ∀ b, S b → S' b) : RdPs w S' v fs := by
  obtain ⟨uv, h1, h2⟩ := h
  exact ⟨uv, h1.more hS, fun i hi => (h2 i hi).more hS⟩
theorem RdPo.nil : RdPo w S (.slice none 0 0) [] := ⟨fun _ => .bool false, InK.nil, fun i hi => absurd hi (by simp)⟩
theorem RdPs.nil : RdPs w S (.slice none 0 0) [] := ⟨fun _ => .bool false, InK.nil, fun i hi => absurd hi (by simp)⟩
theorem RdKs.op {B : Nat} {o : Po} (h : RdKs w (· < B) v o.cols) : RdOp w B v o := InK.rd (f := intF o.cols) (InK.congr h fun _ _ _ _ => rfl) fun _ hb => hb
theorem keeps_po (v : Value) (os : List Po) : Keeps (fun w S => RdPo w S v os) := fun _ _ _ _ h hk hS => (h.keep hk).more hS
theorem keeps_ks (v : Value) (ks : List Int) : Keeps (fun w S => RdKs w S v ks) := fun _ _ _ _ h hk hS => InK.more (InK.keep h hk) hS
theorem rdPo_one {b : Nat} {t : TypeId} {o : Po} {u : Value} (hb : BoxN w b t #[.int .i64 o.kind, .int .i64 o.col, .string o.text, u]) (hu : RdKs w S u o.cols) (hS : S b) : RdPo w S (.slice (some ⟨b, 0, none⟩) 1 1) [o] := by
  refine ⟨fun _ => u, ⟨_, _, rfl, Nat.le_refl _, by simp [maxLen], fun _ => ⟨b, 0, rfl, hS, fun i hi j hj => ?_⟩⟩, fun i hi => ?_⟩
  · obtain rfl : i = 0 := by simp at hi; exact hi
    rw [show 0 + 0 * 4 + j = j by omega]
    rcases (show j = 0 ∨ j = 1 ∨ j = 2 ∨ j = 3 by omega) with rfl | rfl | rfl | rfl
    · exact hb.cell 0 rfl
    · exact hb.cell 1 rfl
    · exact hb.cell 2 rfl
    · exact hb.cell 3 rfl
  · obtain rfl : i = 0 := by simp at hi; exact hi
    exact hu
end
def PoSt (w : World) (base : Nat) (e : TypeId) (v : Value) (os : List Po) : Prop :=
  ∃ uv : Nat → Value, Nest 4 w base e v os.length (poF os uv) (fun i w S => RdKs w S (uv i) (os.getD i Po.z).cols)
def PsSt (w : World) (base : Nat) (e : TypeId) (v : Value) (fs : List (List Po)) : Prop :=
  ∃ vv : Nat → Value, Nest 1 w base e v fs.length (vF vv) (fun i w S => RdPo w S (vv i) (fs.getD i []))
section
variable {w w' : World} {base : Nat} {e : TypeId} {v : Value} {fs : List (List Po)}
theorem PsSt.start (hb : base ≤ w.heap.size) : PsSt w base e (.slice none 0 0) [] := ⟨fun _ => .bool false, Nest.start hb⟩
theorem PsSt.later (h : PsSt w base e v fs) (hb : Below w.heap.size w w') (h0 : 0 < base) : PsSt w' base e v fs := by
  obtain ⟨vv, h⟩ := h
  exact ⟨vv, h.below (fun i _ => keeps_po _ _) hb (Nat.le_refl _) h0⟩
theorem PsSt.drewN (h : PsSt w base e v fs) (m : Nat) : PsSt (w.drewN m) base e v fs := by
  obtain ⟨vv, h⟩ := h
  exact ⟨vv, h.drewN (fun i _ => keeps_po _ _) m⟩
theorem PsSt.alloc (h : PsSt w base e v fs) (O : Obj) : PsSt (w.alloc O) base e v fs := by
  obtain ⟨vv, h⟩ := h
  exact ⟨vv, h.alloc (fun i _ => keeps_po _ _) O⟩
theorem PsSt.owns (h : PsSt w base e v fs) : ∃ L, w.ownsRow base e 1 v fs.length L := by
  obtain ⟨vv, h⟩ := h
  exact ⟨_, h.row⟩
theorem PsSt.low (h : PsSt w base e v fs) : base ≤ w.heap.size := by
  obtain ⟨vv, h⟩ := h
  exact h.low
theorem PsSt.push (h : PsSt w base e v fs) {L : List Value} (hL : w.ownsRow base e 1 v fs.length L) {f : List Po} {u : Value} {g n cap : Nat} (hn : n = fs.length + 1)
    (hown : w'.ownsRow base e 1 (.slice (some ⟨g, 0, none⟩) n cap) n (L ++ [u])) (hg : w.grownBy w' v.ownBlock) (hat : v.ownBlock = some g ∨ g = w.heap.size)
    (hnew : RdPo w (Own w base v) u f) : PsSt w' base e (.slice (some ⟨g, 0, none⟩) n cap) (fs ++ [f]) := by
  obtain ⟨vv, h⟩ := h
  subst hn
  have hLL : L = flatK 1 fs.length (vF vv) := own_same hL h.row
  subst hLL
  refine ⟨fun i => if i = fs.length then u else vv i, ?_⟩
  rw [List.length_append, List.length_singleton]
  refine h.push (fun i _ => keeps_po _ _) hown hg hat ?_ (keeps_po _ _) ?_ ?_ ?_
  · simpa [List.getD] using hnew
  · intro i hi j hj
    have : i ≠ fs.length := by omega
    simp [vF, this]
  · simp [vF, List.range_succ]
  · intro i hi
    have : i ≠ fs.length := by omega
    simp [List.getD, List.getElem?_append_left hi, this]
theorem PsSt.read (h : PsSt w base e v fs) : RdPs w (fun b => base ≤ b ∧ b < w.heap.size) v fs := by
  obtain ⟨vv, h⟩ := h
  exact ⟨vv, (inK_of_owns h.row).more fun b hb => h.row.lt b hb, fun i hi => (h.kids i hi).more fun b hb => ⟨hb.1, hb.2.1⟩⟩
end
theorem info_op : (Tryz.prog.info? 122).map (fun i => (i.zero, i.size, i.bytes)) = some (some (.agg #[.int .i64 0, .int .i64 0, .string ⟨#[]⟩, .slice none 0 0]), 4, 56) := by kernel_rfl
theorem info_ops : (Tryz.prog.info? 74).map (fun i => (i.zero, i.size, i.bytes)) = some (some (.slice none 0 0), 1, 24) := by kernel_rfl
end Go.Proofs.YtaajpliifdlokaaGreatDoor

namespace Go.Proofs.YtaajpliifdlokaaGreatDoor
open Go.RowKit
def Lk.z : Lk := ⟨0, 0, []⟩
def lkF (xs : List Lk) (uv : Nat → Value) (i : Nat) : Nat → Value := three (.int .i64 (xs.getD i Lk.z).src) (.int .i64 (xs.getD i Lk.z).dst) (uv i)
def RdLk (w : World) (S : Nat → Prop) (v : Value) (xs : List Lk) : Prop :=
  ∃ uv, InK 3 w S v xs.length (lkF xs uv) ∧ ∀ i, i < xs.length → RdPo w S (uv i) (xs.getD i Lk.z).ops
def LkSt (w : World) (base : Nat) (e : TypeId) (v : Value) (xs : List Lk) : Prop :=
  ∃ uv : Nat → Value, Nest 3 w base e v xs.length (lkF xs uv) (fun i w S => RdPo w S (uv i) (xs.getD i Lk.z).ops)
section
variable {w w' : World} {S S' : Nat → Prop} {v : Value} {xs : List Lk} {base : Nat} {e : TypeId}
theorem RdLk.keep (h : RdLk w S v xs) (hk : ∀ p : Addr, S p.block → w'.cell? p = w.cell? p) : RdLk w' S v xs := by
  obtain ⟨uv, h1, h2⟩ := h
  exact ⟨uv, h1.keep hk, fun i hi => (h2 i hi).keep hk⟩
theorem RdLk.more (h : RdLk w S v xs) (hS : ∀ b, S b → S' b) : RdLk w S' v xs := by
  obtain ⟨uv, h1, h2⟩ := h
  exact ⟨uv, h1.more hS, fun i hi => (h2 i hi).more hS⟩
theorem RdLk.nil : RdLk w S (.slice none 0 0) [] := ⟨fun _ => .bool false, InK.nil, fun i hi => absurd hi (by simp)⟩
theorem rdLk_next (h : RdLk w (· < w.heap.size) v xs) (hb : Below w.heap.size w w') : RdLk w' (· < w'.heap.size) v xs :=
  (h.keep fun p (hp : p.block < w.heap.size) => hb.cell (p := p) hp).more fun b (hb' : b < w.heap.size) => Nat.lt_of_lt_of_le hb' hb.size
theorem rdLk_len (h : RdLk w S v xs) : ∃ a c, v = .slice a xs.length c ∧ xs.length ≤ c ∧ c ≤ maxLen := by
  obtain ⟨uv, ⟨a, c, e, h1, h2, -⟩, -⟩ := h
  exact ⟨a, c, e, h1, h2⟩
theorem lk_at (h : RdLk w S v xs) {q : Nat} (hq : q < xs.length) : ∃ b o c u, v = .slice (some ⟨b, o, none⟩) xs.length c ∧ S b ∧ RdPo w S u (xs.getD q Lk.z).ops ∧
    w.cell? ⟨b, o + q * 3, none⟩ = some (.int .i64 (xs.getD q Lk.z).src) ∧ w.cell? ⟨b, o + q * 3 + 1, none⟩ = some (.int .i64 (xs.getD q Lk.z).dst) ∧ w.cell? ⟨b, o + q * 3 + 2, none⟩ = some u := by
  obtain ⟨uv, ⟨a, c, rfl, -, -, hr⟩, hk⟩ := h
  obtain ⟨b, o, rfl, hb, hc⟩ := hr (by omega)
  exact ⟨b, o, c, uv q, rfl, hb, hk q hq, hc q hq 0 (by omega), hc q hq 1 (by omega), hc q hq 2 (by omega)⟩
theorem RdLk.take {a : Option Addr} {n c : Nat} (h : RdLk w S (.slice a n c) xs) {q : Nat} (hq : q ≤ xs.length) : RdLk w S (.slice a q c) (xs.take q) := by
  obtain ⟨uv, ⟨a', c', e, h1, h2, h3⟩, h4⟩ := h
  obtain ⟨rfl, rfl, rfl⟩ := Value.slice.inj e
  have hl : (xs.take q).length = q := by rw [List.length_take]; omega
  refine ⟨uv, ?_, fun i hi => ?_⟩
  · rw [hl]
    refine ⟨a, c, rfl, by omega, h2, fun hp => ?_⟩
    obtain ⟨b, o, e1, h5, h6⟩ := h3 (by omega)
    refine ⟨b, o, e1, h5, fun i hi j hj => ?_⟩
    rw [h6 i (by omega) j hj]
    simp [lkF, List.getD, List.getElem?_take, hi]
  · rw [hl] at hi
    have : (xs.take q).getD i Lk.z = xs.getD i Lk.z := by simp [List.getD, List.getElem?_take, hi]
    rw [this]
    exact h4 i (by omega)
theorem LkSt.start (hb : base ≤ w.heap.size) : LkSt w base e (.slice none 0 0) [] := ⟨fun _ => .bool false, Nest.start hb⟩
theorem LkSt.later (h : LkSt w base e v xs) (hb : Below w.heap.size w w') (h0 : 0 < base) : LkSt w' base e v xs := by
  obtain ⟨uv, h⟩ := h
  exact ⟨uv, h.below (fun i _ => keeps_po _ _) hb (Nat.le_refl _) h0⟩
theorem LkSt.owns (h : LkSt w base e v xs) : ∃ L, w.ownsRow base e 3 v xs.length L := by
  obtain ⟨uv, h⟩ := h
  exact ⟨_, h.row⟩
theorem LkSt.low (h : LkSt w base e v xs) : base ≤ w.heap.size := by
  obtain ⟨uv, h⟩ := h
  exact h.low
theorem LkSt.read (h : LkSt w base e v xs) : RdLk w (fun b => base ≤ b ∧ b < w.heap.size) v xs := by
  obtain ⟨uv, h⟩ := h
  exact ⟨uv, (inK_of_owns h.row).more fun b hb => h.row.lt b hb, fun i hi => (h.kids i hi).more fun b hb => ⟨hb.1, hb.2.1⟩⟩
theorem LkSt.push (h : LkSt w base e v xs) {L : List Value} (hL : w.ownsRow base e 3 v xs.length L) {x : Lk} {u : Value} {g n cap : Nat} (hn : n = xs.length + 1)
    (hown : w'.ownsRow base e 3 (.slice (some ⟨g, 0, none⟩) n cap) n (L ++ [.int .i64 x.src, .int .i64 x.dst, u])) (hg : w.grownBy w' v.ownBlock) (hat : v.ownBlock = some g ∨ g = w.heap.size)
    (hnew : RdPo w (Own w base v) u x.ops) : LkSt w' base e (.slice (some ⟨g, 0, none⟩) n cap) (xs ++ [x]) := by
  obtain ⟨uv, h⟩ := h
  subst hn
  have hLL : L = flatK 3 xs.length (lkF xs uv) := own_same hL h.row
  subst hLL
  refine ⟨fun i => if i = xs.length then u else uv i, ?_⟩
  rw [List.length_append, List.length_singleton]
  refine h.push (fun i _ => keeps_po _ _) hown hg hat ?_ (keeps_po _ _) ?_ ?_ ?_
  · simpa [List.getD] using hnew
  · intro i hi j hj
    have h1 : i ≠ xs.length := by omega
    have h2 : (xs ++ [x]).getD i Lk.z = xs.getD i Lk.z := by simp [List.getD, List.getElem?_append_left hi]
    simp only [lkF, if_neg h1, h2]
  · simp [lkF, three, List.range_succ, List.getD]
  · intro i hi
    have h1 : i ≠ xs.length := by omega
    simp [List.getD, List.getElem?_append_left hi, h1]
end
def Or.z : Ta × List Po := (Ta.z, [])
def orC (x : Ta × List Po) (c u : Value) : Nat → Value
  | 0 => .int .i64 x.1.id
  | 1 => .string x.1.name
  | 2 => c
  | _ => u
def orF (os : List (Ta × List Po)) (cv uv : Nat → Value) (i : Nat) : Nat → Value := orC (os.getD i Or.z) (cv i) (uv i)
structure OrSt (w : World) (B base : Nat) (e : TypeId) (v : Value) (os : List (Ta × List Po)) (cv uv : Nat → Value) : Prop where
  row : w.ownsRow base e 4 v os.length (flatK 4 os.length (orF os cv uv))
  low : base ≤ w.heap.size
  cols : ∀ i, i < os.length → RdCo w (· < B) (cv i) (os.getD i Or.z).1.cols
  ops : ∀ i, i < os.length → RdPo w (Own w base v) (uv i) (os.getD i Or.z).2
section
variable {w w' : World} {B base : Nat} {e : TypeId} {v : Value} {os : List (Ta × List Po)} {cv uv : Nat → Value}
theorem OrSt.start (hb : base ≤ w.heap.size) : OrSt w B base e (.slice none 0 0) [] cv uv :=
  ⟨World.ownsRow_nil _ _ _ _, hb, fun i hi => absurd hi (by simp), fun i hi => absurd hi (by simp)⟩
theorem OrSt.later (h : OrSt w B base e v os cv uv) (hb : Below w.heap.size w w') (hB : B ≤ base) : OrSt w' B base e v os cv uv :=
  have hlo := h.low
  ⟨own_later h.row hb, Nat.le_trans h.low hb.size, fun i hi => (h.cols i hi).keep fun p (hp : p.block < B) => hb.cell (p := p) (by omega),
    fun i hi => ((h.ops i hi).keep fun p hp => hb.cell (p := p) hp.2.1).more fun b hb' => ⟨hb'.1, Nat.lt_of_lt_of_le hb'.2.1 hb.size, hb'.2.2⟩⟩
theorem OrSt.push (h : OrSt w B base e v os cv uv) (hB : B ≤ base) {x : Ta × List Po} {c u : Value} {g n cap : Nat} (hn : n = os.length + 1)
    (hown : w'.ownsRow base e 4 (.slice (some ⟨g, 0, none⟩) n cap) n (flatK 4 os.length (orF os cv uv) ++ [.int .i64 x.1.id, .string x.1.name, c, u])) (hg : w.grownBy w' v.ownBlock) (hat : v.ownBlock = some g ∨ g = w.heap.size)
    (hc : RdCo w (· < B) c x.1.cols) (hu : RdPo w (Own w base v) u x.2) :
    OrSt w' B base e (.slice (some ⟨g, 0, none⟩) n cap) (os ++ [x]) (fun i => if i = os.length then c else cv i) (fun i => if i = os.length then u else uv i) := by
  subst hn
  have hlo := h.low
  have hv : ∀ k, v.ownBlock = some k → base ≤ k := fun k hk => (h.row.lt k hk).1
  have hk1 : ∀ p : Addr, p.block < B → w'.cell? p = w.cell? p := fun p hp => World.cell?_of_block (hg.block _ (by omega) (fun e => by have := hv _ e.symm; omega))
  have hk2 : ∀ p : Addr, Own w base v p.block → w'.cell? p = w.cell? p := fun p hp => World.cell?_of_block (hg.block _ hp.2.1 (fun e => hp.2.2 e.symm))
  have hs : ∀ b, Own w base v b → Own w' base (.slice (some ⟨g, 0, none⟩) (os.length + 1) cap) b := fun b hb => ⟨hb.1, Nat.lt_of_lt_of_le hb.2.1 hg.size, fun e => by
    have e1 : g = b := by simpa [Value.ownBlock] using e
    subst e1
    rcases hat with h1 | h1
    · exact hb.2.2 h1
    · have := hb.2.1; omega⟩
  have ho : ∀ i, i < os.length → (os ++ [x]).getD i Or.z = os.getD i Or.z := fun i hi => by simp [List.getD, List.getElem?_append_left hi]
  have hx : (os ++ [x]).getD os.length Or.z = x := by simp [List.getD]
  refine ⟨?_, Nat.le_trans h.low hg.size, fun i hi => ?_, fun i hi => ?_⟩
  · rw [List.length_append, List.length_singleton, ← flat_push (f := orF os cv uv) (news := [.int .i64 x.1.id, .string x.1.name, c, u]) ?_ ?_]
    · exact hown
    · intro i hi j hj
      have h1 : i ≠ os.length := by omega
      simp only [orF, if_neg h1, ho i hi]
    · simp [orF, orC, List.range_succ, hx]
  · rw [List.length_append, List.length_singleton] at hi
    by_cases e1 : i = os.length
    · subst e1
      simp only [if_true, hx]
      exact hc.keep hk1
    · have hi' : i < os.length := by omega
      simp only [if_neg e1, ho i hi']
      exact (h.cols i hi').keep hk1
  · rw [List.length_append, List.length_singleton] at hi
    by_cases e1 : i = os.length
    · subst e1
      simp only [if_true, hx]
      exact (hu.keep hk2).more hs
    · have hi' : i < os.length := by omega
      simp only [if_neg e1, ho i hi']
      exact ((h.ops i hi').keep hk2).more hs
end
theorem info_link : (Tryz.prog.info? 76).map (fun i => (i.zero, i.size, i.bytes)) = some (some (.agg #[.int .i64 0, .int .i64 0, .slice none 0 0]), 3, 40) := by kernel_rfl
theorem info_orig : (Tryz.prog.info? 111).map (fun i => (i.zero, i.size, i.bytes)) = some (some (.agg #[.int .i64 0, .string ⟨#[]⟩, .slice none 0 0, .slice none 0 0]), 4, 72) := by kernel_rfl
end Go.Proofs.YtaajpliifdlokaaGreatDoor

namespace Go.Proofs.YtaajpliifdlokaaGreatDoor
open Go.RowKit
def Cnt (xs : List Co) : Prop := xs.length ≤ 64 ∧ rowsC xs ≤ 4096
theorem TabV.cnt {t : Ta} (h : TabV t) : Cnt t.cols := by
  obtain ⟨-, -, -, hl, n, hn, hc⟩ := h
  refine ⟨hl, ?_⟩
  rcases Nat.eq_zero_or_pos t.cols.length with h0 | h0
  · rw [List.eq_nil_of_length_eq_zero h0]; exact Nat.zero_le _
  · rw [rowsC_of hc h0]; exact hn
theorem Cnt.cells {t : Ta} (h : Cnt t.cols) : cellsT t ≤ 262144 := by
  unfold cellsT
  exact Nat.mul_le_mul h.2 h.1
set_option maxRecDepth 100000 in
set_option maxHeartbeats 4000000 in
theorem lin_cells (t : Ta) (v : Value) (B : Nat) (w : World) (hv : RdCo w (· < B) v t.cols) (hB : B ≤ w.heap.size) (hc : Cnt t.cols) :
    Calls Tryz.prog 101 #[.agg #[.int .i64 t.id, .string t.name, v]] w (Ret w (.int .i64 (cellsT t : Int))) := by
  have hcm := hc.cells
  have HCT : Hid (cellsT t = rowsC t.cols * t.cols.length) := hid rfl
  obtain ⟨va, vc, rfl⟩ : ∃ a c, v = .slice a t.cols.length c := by
    obtain ⟨cv, ⟨a, c, e, -⟩, -⟩ := hv
    exact ⟨a, c, e⟩
  have HR := hid (fun W (hW : Below w.heap.size w W) => table_Rows t.id t.name (.slice va t.cols.length vc) t.cols B W (hv.keep fun p (hp : p.block < B) => hW.cell (p := p) (by omega)) (Nat.le_trans hB hW.size))
  obtain ⟨hc1, hc2⟩ := hc
  clear hv
  generalize cellsT t = C at *
  obtain ⟨id, nm, xs⟩ := t
  simp only at *
  generalize xs.length = L at *
  generalize rowsC xs = R at *
  have HM : Hid (wrap64 ((R : Int) * (L : Int)) = (C : Int)) := hid (by
    have e : ((R * L : Nat) : Int) = (R : Int) * (L : Int) := by simp
    rw [← e, ← HCT.out]
    unfold wrap64
    omega)
  have hbx := BoxN.new w #[.int .i64 id, .string nm, .slice va L vc] 51
  have HB0 := hid ((Below.refl w.heap.size w).alloc (Nat.le_refl _) (.cells #[.int .i64 id, .string nm, .slice va L vc] 51))
  go_enter Tryz.func101, Tryz.ntmps101
  go_upto_region 1 with fail
  generalize w.alloc (.cells #[.int .i64 id, .string nm, .slice va L vc] 51) = W0 at *
  have hw0 := HB0.out.size
  have f0 := fun p : LaterOf W0 => p.cell (hbx.cell 0 rfl)
  have f1 := fun p : LaterOf W0 => p.cell (hbx.cell 1 rfl)
  have f2 := fun p : LaterOf W0 => p.cell (hbx.cell 2 rfl)
  have HC1 := hid (fun p : LaterOf W0 => later_call p (HR.out p.W (HB0.out.trans (p.hb.mono hw0))))
  clear hbx
  refine wp_region_later (by kernel_rfl) (by kernel_rfl) ?_
  repeat (first | go_big_quiet_step ((go_at_call 87; with_reducible exact HC1.out _)) | quiet_step ((go_at_call 87; with_reducible exact HC1.out _)))
  rw [HM.out]
  refine wpQuiet_nil ?_
  intro _ hw'
  obtain ⟨p5, hw''⟩ := hw'
  subst hw''
  have hb5 := p5.hb
  generalize p5.W = w5 at *
  go_wp2
  go_ret
  exact ⟨rfl, HB0.out.trans (hb5.mono hw0)⟩
set_option maxRecDepth 100000 in
set_option maxHeartbeats 4000000 in
theorem lin_greater (a b : Ta) (u v : Value) (B : Nat) (w : World) (hu : RdCo w (· < B) u a.cols) (hv : RdCo w (· < B) v b.cols) (hB : B ≤ w.heap.size) (ha : Cnt a.cols) (hb : Cnt b.cols) :
  Calls Tryz.prog 59 #[.agg #[.int .i64 a.id, .string a.name, u], .agg #[.int .i64 b.id, .string b.name, v]] w (Ret w (.bool (grT a b))) := by
 have HG : Hid (grT a b = (decide (cellsT b < cellsT a) || (decide (cellsT a = cellsT b) && decide (a.id < b.id)))) := hid rfl
 have HA := hid (fun W (hW : Below w.heap.size w W) => lin_cells a u B W (hu.keep fun p (hp : p.block < B) => hW.cell (p := p) (by omega)) (Nat.le_trans hB hW.size) ha)
 have HB := hid (fun W (hW : Below w.heap.size w W) => lin_cells b v B W (hv.keep fun p (hp : p.block < B) => hW.cell (p := p) (by omega)) (Nat.le_trans hB hW.size) hb)
 obtain ⟨ua, uc, rfl⟩ : ∃ x c, u = .slice x a.cols.length c := by
  obtain ⟨cv, ⟨a, c, e, -⟩, -⟩ := hu
  exact ⟨a, c, e⟩
 obtain ⟨va, vc, rfl⟩ : ∃ x c, v = .slice x b.cols.length c := by
  obtain ⟨cv, ⟨a, c, e, -⟩, -⟩ := hv
  exact ⟨a, c, e⟩
 clear hu hv ha hb
 generalize grT a b = G at *
 generalize cellsT a = x at *
 generalize cellsT b = y at *
 obtain ⟨ia, na, xa⟩ := a
 obtain ⟨ib, nb, xb⟩ := b
 simp only at *
 generalize xa.length = la at *
 generalize xb.length = lb at *
 have hbx := (BoxN.new w #[.int .i64 ia, .string na, .slice ua la uc] 51).alloc (.cells #[.int .i64 ib, .string nb, .slice va lb vc] 51)
 have hby := BoxN.new (w.alloc (.cells #[.int .i64 ia, .string na, .slice ua la uc] 51)) #[.int .i64 ib, .string nb, .slice va lb vc] 51
 rw [World.size_alloc] at hby
 have HB0 := hid (((Below.refl w.heap.size w).alloc (Nat.le_refl _) (.cells #[.int .i64 ia, .string na, .slice ua la uc] 51)).alloc (by simp) (.cells #[.int .i64 ib, .string nb, .slice va lb vc] 51))
 go_enter Tryz.func59, Tryz.ntmps59
 go_upto_region 1 with fail
 generalize (w.alloc (.cells #[.int .i64 ia, .string na, .slice ua la uc] 51)).alloc (.cells #[.int .i64 ib, .string nb, .slice va lb vc] 51) = W0 at *
 have hw0 := HB0.out.size
 have f0 := fun p : LaterOf W0 => p.cell (hbx.cell 0 rfl)
 have f1 := fun p : LaterOf W0 => p.cell (hbx.cell 1 rfl)
 have f2 := fun p : LaterOf W0 => p.cell (hbx.cell 2 rfl)
 have g0 := fun p : LaterOf W0 => p.cell (hby.cell 0 rfl)
 have g1 := fun p : LaterOf W0 => p.cell (hby.cell 1 rfl)
 have g2 := fun p : LaterOf W0 => p.cell (hby.cell 2 rfl)
 have HC1 := hid (fun p : LaterOf W0 => later_call p (HA.out p.W (HB0.out.trans (p.hb.mono hw0))))
 have HC2 := hid (fun p : LaterOf W0 => later_call p (HB.out p.W (HB0.out.trans (p.hb.mono hw0))))
 clear hbx hby
 by_cases h1 : y < x
 ·have h1i : (y : Int) < (x : Int) := by omega
  have h1d : decide ((y : Int) < (x : Int)) = true := decide_eq_true h1i
  obtain rfl : G = true := by rw [HG.out, decide_eq_true h1]; rfl
  refine wp_region_later (by kernel_rfl) (by kernel_rfl) ?_
  repeat (first | go_big_quiet_step ((first | (go_at_call 101; with_reducible exact HC1.out _) | (go_at_call 101; with_reducible exact HC2.out _))) | quiet_step ((first | (go_at_call 101; with_reducible exact HC1.out _) | (go_at_call 101; with_reducible exact HC2.out _))))
  refine wpQuiet_nil ?_
  intro _ hw'
  obtain ⟨p5, hw''⟩ := hw'
  subst hw''
  have hb5 := p5.hb
  generalize p5.W = w5 at *
  go_wp2
  go_ret
  exact ⟨rfl, HB0.out.trans (hb5.mono hw0)⟩
 ·have h1i : ¬ (y : Int) < (x : Int) := by omega
  have h1d : decide ((y : Int) < (x : Int)) = false := decide_eq_false h1i
  by_cases h2 : x = y
  ·subst h2
   by_cases h3 : ia < ib
   ·have h3d : decide (ia < ib) = true := decide_eq_true h3
    obtain rfl : G = true := by rw [HG.out, h3d]; simp
    refine wp_region_later (by kernel_rfl) (by kernel_rfl) ?_
    repeat (first | go_big_quiet_step ((first | (go_at_call 101; with_reducible exact HC1.out _) | (go_at_call 101; with_reducible exact HC2.out _))) | quiet_step ((first | (go_at_call 101; with_reducible exact HC1.out _) | (go_at_call 101; with_reducible exact HC2.out _))))
    refine wpQuiet_nil ?_
    intro _ hw'
    obtain ⟨p5, hw''⟩ := hw'
    subst hw''
    have hb5 := p5.hb
    generalize p5.W = w5 at *
    go_wp2
    go_ret
    exact ⟨rfl, HB0.out.trans (hb5.mono hw0)⟩
   ·have h3d : decide (ia < ib) = false := decide_eq_false h3
    obtain rfl : G = false := by rw [HG.out, h3d]; simp
    refine wp_region_later (by kernel_rfl) (by kernel_rfl) ?_
    repeat (first | go_big_quiet_step ((first | (go_at_call 101; with_reducible exact HC1.out _) | (go_at_call 101; with_reducible exact HC2.out _))) | quiet_step ((first | (go_at_call 101; with_reducible exact HC1.out _) | (go_at_call 101; with_reducible exact HC2.out _))))
    refine wpQuiet_nil ?_
    intro _ hw'
    obtain ⟨p5, hw''⟩ := hw'
    subst hw''
    have hb5 := p5.hb
    generalize p5.W = w5 at *
    go_wp2
    go_ret
    exact ⟨rfl, HB0.out.trans (hb5.mono hw0)⟩
  ·have h2i : ((x : Int) == (y : Int)) = false := by simp; omega
   obtain rfl : G = false := by rw [HG.out, decide_eq_false h1, decide_eq_false h2]; simp
   refine wp_region_later (by kernel_rfl) (by kernel_rfl) ?_
   repeat (first | go_big_quiet_step ((first | (go_at_call 101; with_reducible exact HC1.out _) | (go_at_call 101; with_reducible exact HC2.out _))) | quiet_step ((first | (go_at_call 101; with_reducible exact HC1.out _) | (go_at_call 101; with_reducible exact HC2.out _))))
   refine wpQuiet_nil ?_
   intro _ hw'
   obtain ⟨p5, hw''⟩ := hw'
   subst hw''
   have hb5 := p5.hb
   generalize p5.W = w5 at *
   go_wp2
   go_ret
   exact ⟨rfl, HB0.out.trans (hb5.mono hw0)⟩
end Go.Proofs.YtaajpliifdlokaaGreatDoor
