/- Words for operations, and lists of lists of them, in memory. No program in sight. Words for links, and for origins of tables, in memory. No program in sight. Contracts of lineage.cells, lineage.greater, at tables that can be read. Contracts of cmp.Compare, cmp.Or at three numbers, lineage.nearer. slices.MinFunc at origins: the first of the least. DERIVED: THE SHELF's CONTRACTS AT THIS DUMP, IN PLAIN WORDS (tools/lay-plain.mjs out of 'YtaajpliifdlokaaGreatDoorShQL.lean', which tools/lay-shelf.mjs wrote): THE SAME DECLARATIONS UNDER THE SAME NAMES: 'import', 'namespace', 'open', 'def', 'theorem' AND NOTHING ELSE: no command of the shelf's: FOR A HAND-IN. Each laying: the table of numbers ('.._ren') and one theorem, a field a fact of the dump's own or the kernel's comparison; each contract: ONE APPLICATION. -/
import Derived.Test.YtaajpliifdlokaaGreatDoorGFrap
import Derived.Test.YtaajpliifdlokaaGreatDoorGFraq
import Derived.Test.YtaajpliifdlokaaGreatDoorGFrar
import Derived.Deep.RegionHeld3
import Derived.Shelf.SlSortCmp.WholeK
import Derived.Ground.SlsfProg
import Derived.Test.YtaajpliifdlokaaGreatDoorProg
set_option linter.unusedVariables false
set_option linter.unusedSimpArgs false
namespace Go.Proofs.YtaajpliifdlokaaGreatDoor
open Go.RowKit
def Po.z : Po := ⟨0, 0, ⟨#[]⟩, []⟩
def zF (ks : List Int) (j _i : Nat) : Value := .int .i64 (ks.getD j 0)
def poC (o : Po) (u : Value) : Nat → Value
  | 0 => .int .i64 o.kind
  | 1 => .int .i64 o.col
  | 2 => .string o.text
  | _ => u
def poF (os : List Po) (uv : Nat → Value) (i : Nat) : Nat → Value := poC (os.getD i Po.z) (uv i)
def RdKs (w : World) (S : Nat → Prop) (v : Value) (ks : List Int) : Prop := InK 1 w S v ks.length (zF ks)
def RdPo (w : World) (S : Nat → Prop) (v : Value) (os : List Po) : Prop :=
  ∃ uv, InK 4 w S v os.length (poF os uv) ∧ ∀ i, i < os.length → RdKs w S (uv i) (os.getD i Po.z).cols
def vF (vv : Nat → Value) (i _j : Nat) : Value := vv i
def RdPs (w : World) (S : Nat → Prop) (v : Value) (fs : List (List Po)) : Prop :=
  ∃ vv, InK 1 w S v fs.length (vF vv) ∧ ∀ i, i < fs.length → RdPo w S (vv i) (fs.getD i [])
section
variable {w w' : World} {S S' : Nat → Prop} {v : Value} {ks : List Int} {os : List Po} {fs : List (List Po)}
theorem RdPo.keep (h : RdPo w S v os) (hk : ∀ p : Addr, S p.block → w'.cell? p = w.cell? p) : RdPo w' S v os := by
  obtain ⟨uv, h1, h2⟩ := h
  exact ⟨uv, h1.keep hk, fun i hi => InK.keep (h2 i hi) hk⟩
theorem RdPo.more (h : RdPo w S v os) (hS : ∀ b, S b → S' b) : RdPo w S' v os := by
  obtain ⟨uv, h1, h2⟩ := h
  exact ⟨uv, h1.more hS, fun i hi => InK.more (h2 i hi) hS⟩
theorem RdPs.keep (h : RdPs w S v fs) (hk : ∀ p : Addr, S p.block → w'.cell? p = w.cell? p) : RdPs w' S v fs := by
  obtain ⟨uv, h1, h2⟩ := h
  exact ⟨uv, h1.keep hk, fun i hi => (h2 i hi).keep hk⟩
theorem RdPs.more (h : RdPs w S v fs) (hS : ∀ b, S b → S' b) : RdPs w S' v fs := by
  obtain ⟨uv, h1, h2⟩ := h
  exact ⟨uv, h1.more hS, fun i hi => (h2 i hi).more hS⟩
theorem RdPo.nil : RdPo w S (.slice none 0 0) [] := ⟨fun _ => .bool false, InK.nil, fun i hi => absurd hi (by simp)⟩
theorem RdPs.nil : RdPs w S (.slice none 0 0) [] := ⟨fun _ => .bool false, InK.nil, fun i hi => absurd hi (by simp)⟩
theorem RdKs.op {B : Nat} {o : Po} (h : RdKs w (· < B) v o.cols) : RdOp w B v o := InK.rd (f := intF o.cols) (InK.congr h fun _ _ _ _ => rfl) fun _ hb => hb
theorem keeps_po (v : Value) (os : List Po) : Keeps (fun w S => RdPo w S v os) := fun _ _ _ _ h hk hS => (h.keep hk).more hS
theorem keeps_ks (v : Value) (ks : List Int) : Keeps (fun w S => RdKs w S v ks) := fun _ _ _ _ h hk hS => InK.more (InK.keep h hk) hS
end
def PoSt (w : World) (base : Nat) (e : TypeId) (v : Value) (os : List Po) : Prop :=
  ∃ uv : Nat → Value, Nest 4 w base e v os.length (poF os uv) (fun i w S => RdKs w S (uv i) (os.getD i Po.z).cols)
def PsSt (w : World) (base : Nat) (e : TypeId) (v : Value) (fs : List (List Po)) : Prop :=
  ∃ vv : Nat → Value, Nest 1 w base e v fs.length (vF vv) (fun i w S => RdPo w S (vv i) (fs.getD i []))
section
variable {w w' : World} {base : Nat} {e : TypeId} {v : Value} {fs : List (List Po)}
theorem PsSt.start (hb : base ≤ w.heap.size) : PsSt w base e (.slice none 0 0) [] := ⟨fun _ => .bool false, Nest.start hb⟩
theorem PsSt.later (h : PsSt w base e v fs) (hb : Below w.heap.size w w') (h0 : 0 < base) : PsSt w' base e v fs := by
  obtain ⟨vv, h⟩ := h
  exact ⟨vv, h.below (fun i _ => keeps_po _ _) hb (Nat.le_refl _) h0⟩
theorem PsSt.drewN (h : PsSt w base e v fs) (m : Nat) : PsSt (w.drewN m) base e v fs := by
  obtain ⟨vv, h⟩ := h
  exact ⟨vv, h.drewN (fun i _ => keeps_po _ _) m⟩
theorem PsSt.alloc (h : PsSt w base e v fs) (O : Obj) : PsSt (w.alloc O) base e v fs := by
  obtain ⟨vv, h⟩ := h
  exact ⟨vv, h.alloc (fun i _ => keeps_po _ _) O⟩
theorem PsSt.owns (h : PsSt w base e v fs) : ∃ L, w.ownsRow base e 1 v fs.length L := by
  obtain ⟨vv, h⟩ := h
  exact ⟨_, h.row⟩
theorem PsSt.low (h : PsSt w base e v fs) : base ≤ w.heap.size := by
  obtain ⟨vv, h⟩ := h
  exact h.low
theorem PsSt.push (h : PsSt w base e v fs) {L : List Value} (hL : w.ownsRow base e 1 v fs.length L) {f : List Po} {u : Value} {g n cap : Nat} (hn : n = fs.length + 1)
    (hown : w'.ownsRow base e 1 (.slice (some ⟨g, 0, none⟩) n cap) n (L ++ [u])) (hg : w.grownBy w' v.ownBlock) (hat : v.ownBlock = some g ∨ g = w.heap.size)
    (hnew : RdPo w (Own w base v) u f) : PsSt w' base e (.slice (some ⟨g, 0, none⟩) n cap) (fs ++ [f]) := by
  obtain ⟨vv, h⟩ := h
  subst hn
  have hLL : L = flatK 1 fs.length (vF vv) := own_same hL h.row
  subst hLL
  refine ⟨fun i => if i = fs.length then u else vv i, ?_⟩
  rw [List.length_append, List.length_singleton]
  refine h.push (fun i _ => keeps_po _ _) hown hg hat ?_ (keeps_po _ _) ?_ ?_ ?_
  · simpa [List.getD] using hnew
  · intro i hi j hj
    have : i ≠ fs.length := by omega
    simp [vF, this]
  · simp [vF, List.range_succ]
  · intro i hi
    have : i ≠ fs.length := by omega
    simp [List.getD, List.getElem?_append_left hi, this]
theorem PsSt.read (h : PsSt w base e v fs) : RdPs w (fun b => base ≤ b ∧ b < w.heap.size) v fs := by
  obtain ⟨vv, h⟩ := h
  exact ⟨vv, (inK_of_owns h.row).more fun b hb => h.row.lt b hb, fun i hi => (h.kids i hi).more fun b hb => ⟨hb.1, hb.2.1⟩⟩
end
end Go.Proofs.YtaajpliifdlokaaGreatDoor

namespace Go.Proofs.YtaajpliifdlokaaGreatDoor
open Go.RowKit
def Lk.z : Lk := ⟨0, 0, []⟩
def lkF (xs : List Lk) (uv : Nat → Value) (i : Nat) : Nat → Value := three (.int .i64 (xs.getD i Lk.z).src) (.int .i64 (xs.getD i Lk.z).dst) (uv i)
def RdLk (w : World) (S : Nat → Prop) (v : Value) (xs : List Lk) : Prop :=
  ∃ uv, InK 3 w S v xs.length (lkF xs uv) ∧ ∀ i, i < xs.length → RdPo w S (uv i) (xs.getD i Lk.z).ops
def LkSt (w : World) (base : Nat) (e : TypeId) (v : Value) (xs : List Lk) : Prop :=
  ∃ uv : Nat → Value, Nest 3 w base e v xs.length (lkF xs uv) (fun i w S => RdPo w S (uv i) (xs.getD i Lk.z).ops)
section
variable {w w' : World} {S S' : Nat → Prop} {v : Value} {xs : List Lk} {base : Nat} {e : TypeId}
theorem RdLk.keep (h : RdLk w S v xs) (hk : ∀ p : Addr, S p.block → w'.cell? p = w.cell? p) : RdLk w' S v xs := by
  obtain ⟨uv, h1, h2⟩ := h
  exact ⟨uv, h1.keep hk, fun i hi => (h2 i hi).keep hk⟩
theorem RdLk.more (h : RdLk w S v xs) (hS : ∀ b, S b → S' b) : RdLk w S' v xs := by
  obtain ⟨uv, h1, h2⟩ := h
  exact ⟨uv, h1.more hS, fun i hi => (h2 i hi).more hS⟩
theorem RdLk.nil : RdLk w S (.slice none 0 0) [] := ⟨fun _ => .bool false, InK.nil, fun i hi => absurd hi (by simp)⟩
theorem RdLk.take {a : Option Addr} {n c : Nat} (h : RdLk w S (.slice a n c) xs) {q : Nat} (hq : q ≤ xs.length) : RdLk w S (.slice a q c) (xs.take q) := by
  obtain ⟨uv, ⟨a', c', e, h1, h2, h3⟩, h4⟩ := h
  obtain ⟨rfl, rfl, rfl⟩ := Value.slice.inj e
  have hl : (xs.take q).length = q := by rw [List.length_take]; omega
  refine ⟨uv, ?_, fun i hi => ?_⟩
  · rw [hl]
    refine ⟨a, c, rfl, by omega, h2, fun hp => ?_⟩
    obtain ⟨b, o, e1, h5, h6⟩ := h3 (by omega)
    refine ⟨b, o, e1, h5, fun i hi j hj => ?_⟩
    rw [h6 i (by omega) j hj]
    simp [lkF, List.getD, List.getElem?_take, hi]
  · rw [hl] at hi
    have : (xs.take q).getD i Lk.z = xs.getD i Lk.z := by simp [List.getD, List.getElem?_take, hi]
    rw [this]
    exact h4 i (by omega)
theorem LkSt.start (hb : base ≤ w.heap.size) : LkSt w base e (.slice none 0 0) [] := ⟨fun _ => .bool false, Nest.start hb⟩
theorem LkSt.later (h : LkSt w base e v xs) (hb : Below w.heap.size w w') (h0 : 0 < base) : LkSt w' base e v xs := by
  obtain ⟨uv, h⟩ := h
  exact ⟨uv, h.below (fun i _ => keeps_po _ _) hb (Nat.le_refl _) h0⟩
theorem LkSt.owns (h : LkSt w base e v xs) : ∃ L, w.ownsRow base e 3 v xs.length L := by
  obtain ⟨uv, h⟩ := h
  exact ⟨_, h.row⟩
theorem LkSt.low (h : LkSt w base e v xs) : base ≤ w.heap.size := by
  obtain ⟨uv, h⟩ := h
  exact h.low
theorem LkSt.read (h : LkSt w base e v xs) : RdLk w (fun b => base ≤ b ∧ b < w.heap.size) v xs := by
  obtain ⟨uv, h⟩ := h
  exact ⟨uv, (inK_of_owns h.row).more fun b hb => h.row.lt b hb, fun i hi => (h.kids i hi).more fun b hb => ⟨hb.1, hb.2.1⟩⟩
theorem LkSt.push (h : LkSt w base e v xs) {L : List Value} (hL : w.ownsRow base e 3 v xs.length L) {x : Lk} {u : Value} {g n cap : Nat} (hn : n = xs.length + 1)
    (hown : w'.ownsRow base e 3 (.slice (some ⟨g, 0, none⟩) n cap) n (L ++ [.int .i64 x.src, .int .i64 x.dst, u])) (hg : w.grownBy w' v.ownBlock) (hat : v.ownBlock = some g ∨ g = w.heap.size)
    (hnew : RdPo w (Own w base v) u x.ops) : LkSt w' base e (.slice (some ⟨g, 0, none⟩) n cap) (xs ++ [x]) := by
  obtain ⟨uv, h⟩ := h
  subst hn
  have hLL : L = flatK 3 xs.length (lkF xs uv) := own_same hL h.row
  subst hLL
  refine ⟨fun i => if i = xs.length then u else uv i, ?_⟩
  rw [List.length_append, List.length_singleton]
  refine h.push (fun i _ => keeps_po _ _) hown hg hat ?_ (keeps_po _ _) ?_ ?_ ?_
  · simpa [List.getD] using hnew
  · intro i hi j hj
    have h1 : i ≠ xs.length := by omega
    have h2 : (xs ++ [x]).getD i Lk.z = xs.getD i Lk.z := by simp [List.getD, List.getElem?_append_left hi]
    simp only [lkF, if_neg h1, h2]
  · simp [lkF, three, List.range_succ, List.getD]
  · intro i hi
    have h1 : i ≠ xs.length := by omega
    simp [List.getD, List.getElem?_append_left hi, h1]
end
def Or.z : Ta × List Po := (Ta.z, [])
def orC (x : Ta × List Po) (c u : Value) : Nat → Value
  | 0 => .int .i64 x.1.id
  | 1 => .string x.1.name
  | 2 => c
  | _ => u
def orF (os : List (Ta × List Po)) (cv uv : Nat → Value) (i : Nat) : Nat → Value := orC (os.getD i Or.z) (cv i) (uv i)
structure OrSt (w : World) (B base : Nat) (e : TypeId) (v : Value) (os : List (Ta × List Po)) (cv uv : Nat → Value) : Prop where
  row : w.ownsRow base e 4 v os.length (flatK 4 os.length (orF os cv uv))
  low : base ≤ w.heap.size
  cols : ∀ i, i < os.length → RdCo w (· < B) (cv i) (os.getD i Or.z).1.cols
  ops : ∀ i, i < os.length → RdPo w (Own w base v) (uv i) (os.getD i Or.z).2
section
variable {w w' : World} {B base : Nat} {e : TypeId} {v : Value} {os : List (Ta × List Po)} {cv uv : Nat → Value}
theorem OrSt.start (hb : base ≤ w.heap.size) : OrSt w B base e (.slice none 0 0) [] cv uv :=
  ⟨World.ownsRow_nil _ _ _ _, hb, fun i hi => absurd hi (by simp), fun i hi => absurd hi (by simp)⟩
theorem OrSt.later (h : OrSt w B base e v os cv uv) (hb : Below w.heap.size w w') (hB : B ≤ base) : OrSt w' B base e v os cv uv :=
  have hlo := h.low
  ⟨own_later h.row hb, Nat.le_trans h.low hb.size, fun i hi => (h.cols i hi).keep fun p (hp : p.block < B) => hb.cell (p := p) (by omega),
    fun i hi => ((h.ops i hi).keep fun p hp => hb.cell (p := p) hp.2.1).more fun b hb' => ⟨hb'.1, Nat.lt_of_lt_of_le hb'.2.1 hb.size, hb'.2.2⟩⟩
theorem OrSt.push (h : OrSt w B base e v os cv uv) (hB : B ≤ base) {x : Ta × List Po} {c u : Value} {g n cap : Nat} (hn : n = os.length + 1)
    (hown : w'.ownsRow base e 4 (.slice (some ⟨g, 0, none⟩) n cap) n (flatK 4 os.length (orF os cv uv) ++ [.int .i64 x.1.id, .string x.1.name, c, u])) (hg : w.grownBy w' v.ownBlock) (hat : v.ownBlock = some g ∨ g = w.heap.size)
    (hc : RdCo w (· < B) c x.1.cols) (hu : RdPo w (Own w base v) u x.2) :
    OrSt w' B base e (.slice (some ⟨g, 0, none⟩) n cap) (os ++ [x]) (fun i => if i = os.length then c else cv i) (fun i => if i = os.length then u else uv i) := by
  subst hn
  have hlo := h.low
  have hv : ∀ k, v.ownBlock = some k → base ≤ k := fun k hk => (h.row.lt k hk).1
  have hk1 : ∀ p : Addr, p.block < B → w'.cell? p = w.cell? p := fun p hp => World.cell?_of_block (hg.block _ (by omega) (fun e => by have := hv _ e.symm; omega))
  have hk2 : ∀ p : Addr, Own w base v p.block → w'.cell? p = w.cell? p := fun p hp => World.cell?_of_block (hg.block _ hp.2.1 (fun e => hp.2.2 e.symm))
  have hs : ∀ b, Own w base v b → Own w' base (.slice (some ⟨g, 0, none⟩) (os.length + 1) cap) b := fun b hb => ⟨hb.1, Nat.lt_of_lt_of_le hb.2.1 hg.size, fun e => by
    have e1 : g = b := by simpa [Value.ownBlock] using e
    subst e1
    rcases hat with h1 | h1
    · exact hb.2.2 h1
    · have := hb.2.1; omega⟩
  have ho : ∀ i, i < os.length → (os ++ [x]).getD i Or.z = os.getD i Or.z := fun i hi => by simp [List.getD, List.getElem?_append_left hi]
  have hx : (os ++ [x]).getD os.length Or.z = x := by simp [List.getD]
  refine ⟨?_, Nat.le_trans h.low hg.size, fun i hi => ?_, fun i hi => ?_⟩
  · rw [List.length_append, List.length_singleton, ← flat_push (f := orF os cv uv) (news := [.int .i64 x.1.id, .string x.1.name, c, u]) ?_ ?_]
    · exact hown
    · intro i hi j hj
      have h1 : i ≠ os.length := by omega
      simp only [orF, if_neg h1, ho i hi]
    · simp [orF, orC, List.range_succ, hx]
  · rw [List.length_append, List.length_singleton] at hi
    by_cases e1 : i = os.length
    · subst e1
      simp only [if_true, hx]
      exact hc.keep hk1
    · have hi' : i < os.length := by omega
      simp only [if_neg e1, ho i hi']
      exact (h.cols i hi').keep hk1
  · rw [List.length_append, List.length_singleton] at hi
    by_cases e1 : i = os.length
    · subst e1
      simp only [if_true, hx]
      exact (hu.keep hk2).more hs
    · have hi' : i < os.length := by omega
      simp only [if_neg e1, ho i hi']
      exact ((h.ops i hi').keep hk2).more hs
end
end Go.Proofs.YtaajpliifdlokaaGreatDoor

namespace Go.Proofs.YtaajpliifdlokaaGreatDoor
open Go.RowKit
def Cnt (xs : List Co) : Prop := xs.length ≤ 64 ∧ rowsC xs ≤ 4096
theorem TabV.cnt {t : Ta} (h : TabV t) : Cnt t.cols := by
  obtain ⟨-, -, -, hl, n, hn, hc⟩ := h
  refine ⟨hl, ?_⟩
  rcases Nat.eq_zero_or_pos t.cols.length with h0 | h0
  · rw [List.eq_nil_of_length_eq_zero h0]; exact Nat.zero_le _
  · rw [rowsC_of hc h0]; exact hn
theorem Cnt.cells {t : Ta} (h : Cnt t.cols) : cellsT t ≤ 262144 := by
  unfold cellsT
  exact Nat.mul_le_mul h.2 h.1
end Go.Proofs.YtaajpliifdlokaaGreatDoor

namespace Go.Proofs.YtaajpliifdlokaaGreatDoor
open Go.RowKit
def or3 (x y z : Int) : Int := if x ≠ 0 then x else if y ≠ 0 then y else z
end Go.Proofs.YtaajpliifdlokaaGreatDoor

namespace Go.Proofs.YtaajpliifdlokaaGreatDoor
open Go.RowKit
def mTo (os : List (Ta × List Po)) (q : Nat) : Ta × List Po := minO (os.getD 0 Or.z) ((os.drop 1).take q)
def orV (x : Ta × List Po) (c u : Value) : Value := .agg #[.int .i64 x.1.id, .string x.1.name, c, u]
def MinP (w : World) (os : List (Ta × List Po)) (cv uv : Nat → Value) (e : Ending) (w' : World) : Prop :=
  ∃ k, k < os.length ∧ os.getD k Or.z = mTo os (os.length - 1) ∧ e = .returned (orV (os.getD k Or.z) (cv k) (uv k)) ∧ Below w.heap.size w w'
end Go.Proofs.YtaajpliifdlokaaGreatDoor

namespace Go.Proofs
open Go.Shelf
def Tryz.sortLink_ren : Go.Shelf.Ren := ⟨fun | 6 => 63 | 15 => 90 | 14 => 105 | 28 => 144 | 29 => 145 | 20 => 173 | 21 => 174 | 22 => 175 | 23 => 176 | 24 => 177 | 25 => 178 | 26 => 179 | 27 => 180 | 46 => 222 | 47 => 200 | 48 => 201 | 49 => 223 | 50 => 224 | 57 => 252 | n => n, fun | 22 => 70 | 24 => 76 | 25 => 115 | 3 => 3 | 39 => 135 | 0 => 0 | 53 => 159 | 55 => 157 | 4 => 4 | 46 => 173 | 45 => 172 | 50 => 66 | 5 => 5 | 9 => 9 | 66 => 215 | 70 => 219 | 76 => 248 | 77 => 249 | n => n, fun | n => n⟩
end Go.Proofs
