/- Plain facts on what explain.finder tries; an append of none or some. Contract of explain.finder. Contract of explain.own: the same operations in memory of their own. Contract of explain.Find at valid tables. Contract of lineage.Links, at valid tables of few rows. Contracts of slices.IndexFunc at links, and of lineage.to. Contracts of ref38.Same, ref03.SameCells and ref03.Same at equal arguments. Contracts of slices.Index and slices.Contains at numbers, and of lineage.Ancestors. Contract of lineage.Roots. Memory: tables in an own row: one table, two that are exchanged, one that gets another identifier. No program in sight. Memory: the tables of chapter 39's example, while they are built. The tables of chapter 39's example. Contracts of table.column, table.find, table.with, table.Find, where the table is there. Contracts of table.with at the columns of a table, and of table.Find where the table is there. Contract of table.Find where the table is there. Contracts of lineage.right and lineage.Check, at links that are right. Contract of lineage.Check, at links that are right. Plain: chapter 39's example. Contract of law39's ints at equal lists. Contract of law39's awake, out of chain's. Contract of law39's chain: the example's tables. Contract of law39's awake. Plain: a table of the kit's with numbers behind the names of its columns (ExplainLeads). Memory: columns whose names are renamed one after another; operations that grow (ExplainLeads). Contract of law39's family. Plain: what the kit's family of tables is, and the ways up in it. Contract of the reference Find at a list of tables (from Nf). Contracts of the kit's Light, Roll: numbers that came in become dice. The walk of LineageRight. Contracts of ref03.SameCells and ref03.Same at equal arguments. A map of numbers by texts, in words. Contracts of sets of texts: text.IsSet, the reference's Set. Contract of the reference's Set. -/
import Derived.Test.YtaajpliifdlokaaGreatDoorGFrau
import Derived.Test.YtaajpliifdlokaaGreatDoorGFrar
import Derived.Test.YtaajpliifdlokaaGreatDoorGFrap
import Derived.Shelf.Strconv.Clone
import Derived.Laws.OwnMore
import Derived.Deep.RegionHeld3
import Derived.Deep.Cut
import Derived.Deep.CutRange
import Derived.Test.YtaajpliifdlokaaGreatDoorGFras
import Derived.Shelf.SortM.SortNone
import Derived.Sort.OwnSortedInts
import Derived.Test.YtaajpliifdlokaaGreatDoorGFrao
import Derived.Test.YtaajpliifdlokaaGreatDoorGFrah
import Derived.Deep.RegionLawGrows
import Derived.Test.YtaajpliifdlokaaGreatDoorGFraq
import Derived.RangeFuncBox
import Derived.RangeFuncLeaves
import Derived.Shelf.Abstract
import Derived.OwnWalkIn
import Derived.TacticsInMore
import Derived.LoopNIn
import Derived.LoopIn
import Derived.Maps.OwnIn
import Derived.Maps.OwnSet
import Derived.Maps.OwnRows
import Derived.Test.YtaajpliifdlokaaGreatDoorProg
import Derived.Test.YtaajpliifdlokaaGreatDoorGFraf
import Derived.Test.YtaajpliifdlokaaGreatDoorRows
import Derived.Test.YtaajpliifdlokaaGreatDoorGFrag
set_option linter.unusedVariables false
set_option linter.unusedSimpArgs false
namespace Go.Proofs.YtaajpliifdlokaaGreatDoor
open Go.RowKit
def endF (a b : List Co) (g : List Po) (most : Nat) (e : List Po) : Option (List Po) := if g.length + e.length = most ∧ runL (runL a g) e = b then some (g ++ e) else none
theorem wpList_append_any {P : Program} {w : World} {ops : Array Oper} {rest : List Oper} {o : Oper} {a : Act} {Q : Exit → Act → World → Prop} (hgd : o.guard = none) (s x : Operand) (t tx : TypeId)
    (ho : o.op = .call { callee := .builtin .append, args := #[s, x], argTypes := #[t, tx] })
    (base : Nat) (e e' : TypeId) (i : TypeInfo) (z : Value) (size bytes : Nat) (ht : P.underlying t = some (.slice e)) (hk : P.underlying tx = some (.slice e')) (hi : P.info? e = some i) (hz : i.zero = some z)
    (hsize : i.size = size) (hby : i.bytes = bytes) (hzs : z.cells.size = size) (hsz : 0 < size)
    (av : Option Addr) (n cv : Nat) (xs : List Value) (hs : a.eval s = .slice av n cv) (hown : w.ownsRow base e size (.slice av n cv) n xs)
    (ao : Option Addr) (m c : Nat) (news : List Value) (hx : a.eval x = .slice ao m c) (hl : news.length = m * size) (hnews : 0 < m → ∃ ad, ao = some ad ∧ ∀ j u, news[j]? = some u → w.cell? (ad.add j) = some u) (h1 : ∀ u ∈ news, u.oneCell' = true)
    (h63 : n + m ≤ maxLen) (hbytes : (n + m) * bytes ≤ 140737488355328) (hbase : base ≤ w.heap.size) (k : Nat) (hk2 : n + m = k)
    (h : ∀ a' cap w', w'.ownsRow base e size (.slice a' k cap) k (xs ++ news) → w.grownBy w' (Value.slice av n cv).ownBlock → wpList P ops Q rest (a.put o.dst (.slice a' k cap)) w') : wpList P ops Q (o :: rest) a w := by
  subst hk2
  by_cases hm : m = 0
  · subst hm
    have hn : news = [] := List.eq_nil_of_length_eq_zero (by simpa using hl)
    subst hn
    have hnc : n ≤ cv := by
      rcases hown.2 with ⟨e1, h2⟩ | ⟨g, cap, cur, e1, _, _, hnc, _⟩
      · obtain ⟨-, rfl, rfl⟩ := Value.slice.inj e1
        exact Nat.le_refl _
      · obtain ⟨-, -, rfl⟩ := Value.slice.inj e1
        exact hnc
    refine wpList_append_none hgd s x t tx ho e e' i ht hk hi av n cv hs hnc ao 0 c rfl hx ?_
    exact h av cv w (by simpa using hown) ⟨rfl, rfl, rfl, Nat.le_refl _, fun _ _ _ => rfl⟩
  · exact wpList_append_form w hgd s x t tx ho base e e' i z size bytes ht hk hi hz hsize hby hzs hsz (.slice av n cv) n xs hs hown ao m c news hx hl hnews h1 (by omega) h63 hbytes hbase fun g cap w' h2 h3 _ _ => h (some ⟨g, 0, none⟩) cap w' h2 h3
end Go.Proofs.YtaajpliifdlokaaGreatDoor

namespace Go.Proofs.YtaajpliifdlokaaGreatDoor
open Go.RowKit
def FoundP (w : World) (r : Option (List Po)) (e : Ending) (w' : World) : Prop :=
  ∃ v, e = .returned (.tuple #[v, .bool r.isSome]) ∧ RdPo w' (· < w'.heap.size) v (r.getD []) ∧ Below w.heap.size w w'
end Go.Proofs.YtaajpliifdlokaaGreatDoor

namespace Go.Proofs.YtaajpliifdlokaaGreatDoor
open Go.RowKit Go.Shelf
theorem flat_set4 (n : Nat) (f f' : Nat → Nat → Value) (i j : Nat) (hi : i < n) (hj : j < 4) (u : Value) (h1 : f' i j = u) (hf : ∀ i' j', (i' ≠ i ∨ j' ≠ j) → j' < 4 → f' i' j' = f i' j') : (flatK 4 n f).set (i * 4 + j) u = flatK 4 n f' := by
  apply List.ext_getElem?
  intro m
  by_cases hm : m < n * 4
  · have e : m = m / 4 * 4 + m % 4 := by omega
    have hk : m / 4 < n := by omega
    have a1 := flatK_at (k := 4) (f := f') hk (Nat.mod_lt m (by omega))
    have a2 := flatK_at (k := 4) (f := f) hk (Nat.mod_lt m (by omega))
    rw [← e] at a1 a2
    rw [a1, List.getElem?_set]
    by_cases hmi : i * 4 + j = m
    · have e2 : m / 4 = i := by omega
      have e3 : m % 4 = j := by omega
      rw [if_pos hmi, if_pos (by rw [flatK_len]; omega), e2, e3, h1]
    · rw [if_neg hmi, a2, hf _ _ (by omega) (Nat.mod_lt m (by omega))]
  · rw [List.getElem?_eq_none (by rw [List.length_set, flatK_len]; omega), List.getElem?_eq_none (by rw [flatK_len]; omega)]
structure OwnPo (W : World) (base : Nat) (e : TypeId) (v : Value) (L q : Nat) (os : List Po) (cw cv : Nat → Value) : Prop where
  row : W.ownsRow base e 4 v L (flatK 4 L (poF os cw))
  low : base ≤ W.heap.size
  kids : ∀ i, i < q → RdKs W (Own W base v) (cw i) (os.getD i Po.z).cols
  rest : ∀ i, q ≤ i → cw i = cv i
section
variable {W W' : World} {base : Nat} {e : TypeId} {v : Value} {L q : Nat} {os : List Po} {cw cv : Nat → Value}
theorem OwnPo.later (h : OwnPo W base e v L q os cw cv) (hb : Below W.heap.size W W') : OwnPo W' base e v L q os cw cv :=
  ⟨own_later h.row hb, Nat.le_trans h.low hb.size, fun i hi => ((h.kids i hi).keep fun p hp => hb.cell (p := p) hp.2.1).more fun b hb' => ⟨hb'.1, Nat.lt_of_lt_of_le hb'.2.1 hb.size, hb'.2.2⟩, h.rest⟩
theorem OwnPo.text {g cap : Nat} (h : OwnPo W base e (.slice (some ⟨g, 0, none⟩) L cap) L q os cw cv) {i : Nat} (hi : i < L) :
    OwnPo (W.setCell ⟨g, i * 4 + 2, none⟩ (.string (os.getD i Po.z).text)) base e (.slice (some ⟨g, 0, none⟩) L cap) L q os cw cv := by
  have hc : ∀ p : Addr, p.block ≠ g → (W.setCell ⟨g, i * 4 + 2, none⟩ (.string (os.getD i Po.z).text)).cell? p = W.cell? p := fun p hp => World.cell?_setCell_other _ _ _ _ (by intro e; subst e; exact hp rfl)
  refine ⟨?_, by simpa using h.low, fun j hj => ?_, h.rest⟩
  · have h1 := (h.row.stored (i * 4 + 2) (.string (os.getD i Po.z).text)).1
    rw [flat_set4 L (poF os cw) (poF os cw) i 2 hi (by omega) (.string (os.getD i Po.z).text) rfl (fun _ _ _ _ => rfl)] at h1
    exact h1
  · refine ((h.kids j hj).keep fun p hp => hc p fun e => hp.2.2 ?_).more fun b hb => ⟨hb.1, by simpa using hb.2.1, hb.2.2⟩
    rw [e]
    rfl
theorem OwnPo.put {g cap : Nat} (h : OwnPo W base e (.slice (some ⟨g, 0, none⟩) L cap) L q os cw cv) (hq : q < L) {z : Value}
    (hz : RdKs W (fun b => base ≤ b ∧ b < W.heap.size ∧ b ≠ g) z (os.getD q Po.z).cols) :
    OwnPo (W.setCell ⟨g, q * 4 + 3, none⟩ z) base e (.slice (some ⟨g, 0, none⟩) L cap) L (q + 1) os (fun i => if i = q then z else cw i) cv := by
  have hc : ∀ p : Addr, p.block ≠ g → (W.setCell ⟨g, q * 4 + 3, none⟩ z).cell? p = W.cell? p := fun p hp => World.cell?_setCell_other _ _ _ _ (by intro e; subst e; exact hp rfl)
  refine ⟨?_, by simpa using h.low, fun i hi => ?_, fun i hi => ?_⟩
  · have h1 := (h.row.stored (q * 4 + 3) z).1
    rw [flat_set4 L (poF os cw) (poF os fun i => if i = q then z else cw i) q 3 hq (by omega) z (by simp [poF, poC]) (fun i' j' hne hj => ?_)] at h1
    · exact h1
    · rcases (show j' = 0 ∨ j' = 1 ∨ j' = 2 ∨ j' = 3 by omega) with rfl | rfl | rfl | rfl
      · rfl
      · rfl
      · rfl
      · have : i' ≠ q := by omega
        simp [poF, poC, this]
  · by_cases hiq : i = q
    · subst hiq
      rw [if_pos rfl]
      refine (hz.keep fun p hp => hc p hp.2.2).more fun b hb => ⟨hb.1, by simpa using hb.2.1, fun e => hb.2.2 ?_⟩
      simp only [Value.ownBlock, Option.some.injEq] at e
      exact e.symm
    · rw [if_neg hiq]
      refine ((h.kids i (by omega)).keep fun p hp => hc p fun e => hp.2.2 ?_).more fun b hb => ⟨hb.1, by simpa using hb.2.1, hb.2.2⟩
      rw [e]
      rfl
  · rw [if_neg (by omega)]
    exact h.rest i (by omega)
theorem OwnPo.done (h : OwnPo W base e v L L os cw cv) (hl : L = os.length) : RdPo W (fun b => base ≤ b ∧ b < W.heap.size) v os := by
  subst hl
  exact ⟨cw, (inK_of_owns h.row).more fun b hb => h.row.lt b hb, fun i hi => (h.kids i hi).more fun b hb => ⟨hb.1, hb.2.1⟩⟩
end
def OpsOk (os : List Po) : Prop := ∀ o ∈ os, o.text.size ≤ 1024 ∧ o.cols.length ≤ 64
end Go.Proofs.YtaajpliifdlokaaGreatDoor

namespace Go.Proofs.YtaajpliifdlokaaGreatDoor
open Go.RowKit
def FoundN (w : World) (r : Option (List Po)) (e : Ending) (w' : World) : Prop :=
  ∃ v, e = .returned (.tuple #[v, .bool r.isSome]) ∧ RdPo w' (News w w') v (r.getD []) ∧ Below w.heap.size w w'
end Go.Proofs.YtaajpliifdlokaaGreatDoor

namespace Go.Proofs.YtaajpliifdlokaaGreatDoor
open Go.RowKit
theorem lists_PermittedL (v : Value) (ts : List Ta) (B : Nat) (w : World) (h : ListV ts) (hv : RdTa w (· < B) v ts) (hB : B ≤ w.heap.size) (hT : Tabs w) :
    Calls Tryz.prog 38 #[v] w (Ret w (.bool true)) := by
  have HV := hid (table_ValidList v ts B w h hv hB hT)
  obtain ⟨tv, ⟨a, c, rfl, -⟩, -⟩ := hv
  clear h hB hT
  generalize ts.length = L at *
  go_enter Tryz.func38, Tryz.ntmps38
  go_wp2_with fail
  with_reducible refine HV.out.mono ?_
  rintro e w1 ⟨rfl, hb1⟩
  have HB1 := hid hb1
  clear hb1
  go_wp2
  go_ret
  exact ⟨rfl, HB1.out⟩
def LinksP (w : World) (ts : List Ta) (e : Ending) (w' : World) : Prop :=
  ∃ u, e = .returned (.tuple #[u, .int .i64 0]) ∧ RdLk w' (News w w') u (linksL ts) ∧ Below w.heap.size w w'
end Go.Proofs.YtaajpliifdlokaaGreatDoor

namespace Go.Proofs.YtaajpliifdlokaaGreatDoor
open Go.RowKit
def IxP (w : World) (xs : List Lk) (id : Int) (e : Ending) (w' : World) : Prop :=
  Below w.heap.size w w' ∧ ((∃ i, i < xs.length ∧ (xs.getD i Lk.z).dst = id ∧ (∀ j, j < i → (xs.getD j Lk.z).dst ≠ id) ∧ e = .returned (.int .i64 (i : Int))) ∨ ((∀ j, j < xs.length → (xs.getD j Lk.z).dst ≠ id) ∧ e = .returned (.int .i64 (-1))))
def ToP (w : World) (S : Nat → Prop) (xs : List Lk) (id : Int) (e : Ending) (w' : World) : Prop :=
  Below w.heap.size w w' ∧ match toL xs id with
    | none => e = .returned (.tuple #[.agg #[.int .i64 0, .int .i64 0, .slice none 0 0], .bool false])
    | some y => ∃ a c, e = .returned (.tuple #[.agg #[.int .i64 y.src, .int .i64 y.dst, .slice a y.ops.length c], .bool true]) ∧ RdPo w S (.slice a y.ops.length c) y.ops
end Go.Proofs.YtaajpliifdlokaaGreatDoor

namespace Go.Proofs.YtaajpliifdlokaaGreatDoor
open Go.RowKit
end Go.Proofs.YtaajpliifdlokaaGreatDoor

namespace Go.Proofs.YtaajpliifdlokaaGreatDoor
open Go.RowKit
def AncP (w : World) (xs : List Lk) (K : Nat) (t : Int) (e : Ending) (w' : World) : Prop :=
  ∃ u, e = .returned u ∧ RdKs w' (News w w') u ((ancL xs K [t]).drop 1) ∧ Below w.heap.size w w'
end Go.Proofs.YtaajpliifdlokaaGreatDoor

namespace Go.Proofs.YtaajpliifdlokaaGreatDoor
open Go.RowKit Go.Shelf
theorem lib_SortZ (zs : List Int) (base : Nat) (v : Value) (w : World) (h : w.ownsRow base 3 1 v zs.length (zs.map (Value.int .i64))) (hs : zs.Pairwise fun a b => a < b) (hm : zs.length ≤ 1048576) :
    Calls Tryz.prog 53 #[v] w fun e w' => e = .returned (.tuple #[]) ∧ w'.ownsRow base 3 1 v zs.length (zs.map (Value.int .i64)) ∧ (∃ row, w.grownBy w' row ∧ ∀ k, row = some k → base ≤ k) := by
  rcases Nat.eq_zero_or_pos zs.length with h0 | h0
  · rcases h.2 with ⟨e1, -⟩ | ⟨blk, cap, cur, e1, -⟩
    · subst e1
      refine (AnyM.slices_Sort_int_none Tryz.sortInt none 0 w).mono ?_
      rintro e w' ⟨he, rfl⟩
      exact ⟨he, h, none, ⟨rfl, rfl, rfl, Nat.le_refl _, fun _ _ _ => rfl⟩, fun k hk => by cases hk⟩
    · have e2 := e1
      rw [h0] at e2
      rw [e2]
      refine (AnyM.slices_Sort_int_none Tryz.sortInt (some ⟨blk, 0, none⟩) cap w).mono ?_
      rintro e w' ⟨he, rfl⟩
      exact ⟨he, by rw [← e2]; exact h, none, ⟨rfl, rfl, rfl, Nat.le_refl _, fun _ _ _ => rfl⟩, fun k hk => by cases hk⟩
  · rcases h.2 with ⟨e1, h1⟩ | ⟨blk, cap, cur, e1, hb, hheap, hcn, hcm, hsz, ht⟩
    · omega
    · subst e1
      rw [Nat.mul_one] at ht
      have hH := holds_of_blockI hheap ht
      have hblk : blk < w.heap.size := (Array.getElem?_eq_some_iff.1 hheap).1
      have hme : zs.mergeSort (fun x y => decide (x ≤ y)) = zs := by
        refine perm_same (fun x : Int => x) (List.mergeSort_perm _ _) hs ?_
        have := List.pairwise_mergeSort (le := fun x y : Int => decide (x ≤ y)) (fun a b c h1 h2 => by simp at *; omega) (fun a b => by simp; omega) zs
        exact this.imp fun h => by simpa using h
      refine (AnyM.slices_Sort_int Tryz.sortInt blk 0 cap zs w hH hblk (by omega)).mono ?_
      rintro e w' ⟨he, n, os, rfl⟩
      rw [hme]
      exact ⟨he, ownsRow_sortedI (n := n) (os := os) (ss := zs) rfl hb hheap hcn hcm hsz, some blk, grownBy_sortedI _, fun k hk => by cases hk; exact hb⟩
def rootI (xs : List Lk) (t : Ta) : Option Int := if (toL xs t.id).isNone = true then some t.id else none
def rootIds (ts : List Ta) (xs : List Lk) : List Int := ts.filterMap (rootI xs)
def RootsP (w : World) (ts : List Ta) (xs : List Lk) (e : Ending) (w' : World) : Prop :=
  ∃ z, e = .returned z ∧ RdKs w' (News w w') z (rootIds ts xs) ∧ Below w.heap.size w w'
end Go.Proofs.YtaajpliifdlokaaGreatDoor

namespace Go.Proofs.YtaajpliifdlokaaGreatDoor
open Go.RowKit
def fput (f : Nat → Nat → Value) (i j : Nat) (u : Value) (i' j' : Nat) : Value := if i' = i ∧ j' = j then u else f i' j'
def swL (ts : List Ta) (i j : Nat) : List Ta := (ts.set i (ts.getD j Ta.z)).set j (ts.getD i Ta.z)
section
variable {W : World} {base : Nat} {e : TypeId} {g n cap : Nat} {ts : List Ta} {tv : Nat → Value}
def idL (ts : List Ta) (i : Nat) (z : Int) : List Ta := ts.set i ⟨z, (ts.getD i Ta.z).name, (ts.getD i Ta.z).cols⟩
end
end Go.Proofs.YtaajpliifdlokaaGreatDoor

namespace Go.Proofs.YtaajpliifdlokaaGreatDoor
open Go.RowKit
theorem own_keepB {w w' : World} {base : Nat} {e : TypeId} {k n : Nat} {v : Value} {L : List Value} (h : w.ownsRow base e k v n L) (hk : ∀ b, v.ownBlock = some b → w'.heap[b]? = w.heap[b]?) : w'.ownsRow base e k v n L := by
  refine ⟨h.1, ?_⟩
  rcases h.2 with h1 | ⟨g, cap, cur, rfl, h2, hg, h3⟩
  · exact .inl h1
  · exact .inr ⟨g, cap, cur, rfl, h2, (hk g rfl).trans hg, h3⟩
def kCl : Cl := ⟨false, ⟨#[107]⟩⟩
def ksL (n : Nat) : List Cl := List.replicate n kCl
def digB : List ByteArray := [⟨#[49]⟩, ⟨#[50]⟩, ⟨#[51]⟩, ⟨#[52]⟩]
def nsL (n : Nat) : List Cl := (List.range n).map fun i => ⟨false, digB.getD i ⟨#[]⟩⟩
def chC (n : Nat) : List Co := [⟨⟨#[97]⟩, ksL n⟩, ⟨⟨#[98]⟩, nsL n⟩]
theorem ksL_len (n : Nat) : (ksL n).length = n := by simp [ksL]
theorem nsL_len (n : Nat) : (nsL n).length = n := by simp [nsL]
structure ChI (W0 W : World) (z : Int) (r0 r1 : Nat) (v0 v1 : Value) : Prop where
  bel : Below W0.heap.size W0 W
  cbx : BoxN W W0.heap.size 55 #[.string ⟨#[97]⟩, v0, .string ⟨#[98]⟩, v1]
  tbx : BoxN W (W0.heap.size + 1) 51 #[.int .i64 z, .string ⟨#[]⟩, .slice (some ⟨W0.heap.size, 0, none⟩) 2 2]
  own0 : W.ownsRow W0.heap.size 84 2 v0 r0 (flatK 2 r0 (clF (ksL r0)))
  own1 : W.ownsRow W0.heap.size 84 2 v1 r1 (flatK 2 r1 (clF (nsL r1)))
  apart : ∀ b, v0.ownBlock = some b → v1.ownBlock ≠ some b
section
variable {W0 W W' : World} {z : Int} {r0 r1 : Nat} {v0 v1 : Value}
theorem ChI.later (h : ChI W0 W z r0 r1 v0 v1) (hb : Below W.heap.size W W') : ChI W0 W' z r0 r1 v0 v1 :=
  ⟨h.bel.trans (hb.mono h.bel.size), h.cbx.below hb h.cbx.lt, h.tbx.below hb h.tbx.lt, own_later h.own0 hb, own_later h.own1 hb, h.apart⟩
theorem ChI.drew (h : ChI W0 W z r0 r1 v0 v1) : ChI W0 W.drew z r0 r1 v0 v1 := h.later (Below.refl _ _).drew
end
def TabB (W : World) (lo hi n : Nat) (v : Value) : Prop :=
  ∃ v0 v1, v = .slice (some ⟨lo, 0, none⟩) 2 2 ∧ BoxN W lo 55 #[.string ⟨#[97]⟩, v0, .string ⟨#[98]⟩, v1] ∧ W.ownsRow lo 84 2 v0 n (flatK 2 n (clF (ksL n))) ∧ W.ownsRow lo 84 2 v1 n (flatK 2 n (clF (nsL n))) ∧
    (∀ b, v0.ownBlock = some b → v1.ownBlock ≠ some b) ∧ lo < hi ∧ (∀ b, v0.ownBlock = some b → b < hi) ∧ (∀ b, v1.ownBlock = some b → b < hi)
theorem TabB.keep {W W' : World} {lo hi n : Nat} {v : Value} (h : TabB W lo hi n v) (hk : ∀ b cur e, lo ≤ b → b < hi → W.heap[b]? = some (.cells cur e (0, 0)) → e = 84 ∨ e = 55 → W'.heap[b]? = W.heap[b]?) : TabB W' lo hi n v := by
  obtain ⟨v0, v1, rfl, hb, h0, h1, ha, hl, hh0, hh1⟩ := h
  have hrow : ∀ (u : Value) L, W.ownsRow lo 84 2 u n L → (∀ b, u.ownBlock = some b → b < hi) → W'.ownsRow lo 84 2 u n L := fun u L hu hlt => own_keepB hu fun b hbb => by
    rcases hu.2 with ⟨rfl, -⟩ | ⟨g, cap, cur, rfl, hg1, hg, -⟩
    · cases hbb
    · have e : g = b := Option.some.inj hbb
      subst e
      exact hk g cur _ hg1 (hlt g rfl) hg (.inl rfl)
  exact ⟨v0, v1, rfl, (hk lo _ _ (Nat.le_refl _) hl hb (.inr rfl)).trans hb, hrow v0 _ h0 hh0, hrow v1 _ h1 hh1, ha, hl, hh0, hh1⟩
theorem TabB.read {W : World} {lo hi n : Nat} {v : Value} (h : TabB W lo hi n v) : RdCo W (fun b => lo ≤ b ∧ b < hi) v (chC n) := by
  obtain ⟨v0, v1, rfl, hb, h0, h1, ha, hl, hh0, hh1⟩ := h
  refine ⟨fun i => if i = 0 then v0 else v1, ⟨_, _, rfl, Nat.le_refl _, by simp [maxLen], fun _ => ⟨lo, 0, rfl, ⟨Nat.le_refl _, hl⟩, fun i hi j hj => ?_⟩⟩, fun i hi => ?_⟩
  · rcases (show i = 0 ∨ i = 1 by simp [chC] at hi; omega) with rfl | rfl
    · rcases (show j = 0 ∨ j = 1 by omega) with rfl | rfl
      · exact hb.cell 0 rfl
      · exact hb.cell 1 rfl
    · rcases (show j = 0 ∨ j = 1 by omega) with rfl | rfl
      · exact hb.cell 2 rfl
      · exact hb.cell 3 rfl
  · rcases (show i = 0 ∨ i = 1 by simp [chC] at hi; omega) with rfl | rfl
    · show RdCl W _ v0 (ksL n)
      have h2 := h0
      rw [← ksL_len n] at h2
      rw [ksL_len] at h2
      have h3 : W.ownsRow lo 84 2 v0 (ksL n).length (flatK 2 (ksL n).length (clF (ksL n))) := by rw [ksL_len]; exact h0
      exact (inK_of_owns h3).more fun b hbb => ⟨(h0.lt b hbb).1, hh0 b hbb⟩
    · show RdCl W _ v1 (nsL n)
      have h3 : W.ownsRow lo 84 2 v1 (nsL n).length (flatK 2 (nsL n).length (clF (nsL n))) := by rw [nsL_len]; exact h1
      exact (inK_of_owns h3).more fun b hbb => ⟨(h1.lt b hbb).1, hh1 b hbb⟩
end Go.Proofs.YtaajpliifdlokaaGreatDoor

namespace Go.Proofs.YtaajpliifdlokaaGreatDoor
open Go.RowKit
def nulL : List Cl := [⟨false, ⟨#[49]⟩⟩, ⟨false, ⟨#[50]⟩⟩, ⟨false, ⟨#[51]⟩⟩, ⟨true, ⟨#[]⟩⟩]
def chB : List Ta := [⟨1, ⟨#[]⟩, chC 4⟩, ⟨2, ⟨#[]⟩, chC 3⟩, ⟨3, ⟨#[]⟩, chC 1⟩]
def chainL : List Ta := [⟨1, ⟨#[]⟩, [⟨⟨#[97]⟩, ksL 4⟩, ⟨⟨#[98]⟩, nulL⟩]⟩, ⟨2, ⟨#[]⟩, chC 3⟩, ⟨3, ⟨#[]⟩, chC 1⟩]
def nOf (i : Nat) : Nat := [4, 3, 1].getD i 0
theorem TabB.grown {W W' : World} {lo hi n base k : Nat} {v s : Value} {L : List Value} (h : TabB W lo hi n v) {m : Nat} (hs : W.ownsRow base 51 k s m L) (hg : W.grownBy W' s.ownBlock) (hh : hi ≤ W.heap.size) : TabB W' lo hi n v :=
  h.keep fun b cur e _ h2 hb he => hg.block b (by omega) fun eq => by
    rcases hs.2 with ⟨rfl, -⟩ | ⟨g, cap, cur', rfl, -, hg', -⟩
    · cases eq
    · have e2 : b = g := Option.some.inj eq
      subst e2
      rw [hb] at hg'
      injection hg' with h3
      injection h3 with h4 h5
      rw [h5] at he
      rcases he with h6 | h6 <;> exact absurd h6 (by decide)
def ChainP (w : World) (e : Ending) (w' : World) : Prop := ∃ v, e = .returned v ∧ RdTa w' (News w w') v chainL ∧ Below w.heap.size w w'
end Go.Proofs.YtaajpliifdlokaaGreatDoor

namespace Go.Proofs.YtaajpliifdlokaaGreatDoor
open Go.RowKit
def ColP (w : World) (x : Co) (e : Ending) (w' : World) : Prop := ∃ u, e = .returned (.agg #[.string x.name, u]) ∧ RdCl w' (News w w') u x.cells ∧ Below w.heap.size w w'
end Go.Proofs.YtaajpliifdlokaaGreatDoor

namespace Go.Proofs.YtaajpliifdlokaaGreatDoor
open Go.RowKit
end Go.Proofs.YtaajpliifdlokaaGreatDoor

namespace Go.Proofs.YtaajpliifdlokaaGreatDoor
open Go.RowKit
def FindT (w : World) (t : Ta) (e : Ending) (w' : World) : Prop :=
  ∃ u, e = .returned (.tuple #[.agg #[.int .i64 t.id, .string t.name, u], .bool true]) ∧ RdCo w' (News w w') u t.cols ∧ Below w.heap.size w w'
end Go.Proofs.YtaajpliifdlokaaGreatDoor

namespace Go.Proofs.YtaajpliifdlokaaGreatDoor
open Go.RowKit
end Go.Proofs.YtaajpliifdlokaaGreatDoor

namespace Go.Proofs.YtaajpliifdlokaaGreatDoor
open Go.RowKit
def RightL (ts : List Ta) (x : Lk) : Prop := ∃ a ∈ ts, ∃ b ∈ ts, Few a.cols ∧ a.id = x.src ∧ b.id = x.dst ∧ grT a b = true ∧ canRun a.cols x.ops = true ∧ runL a.cols x.ops = b.cols ∧ x.ops.length ≤ 4
end Go.Proofs.YtaajpliifdlokaaGreatDoor

namespace Go.Proofs.YtaajpliifdlokaaGreatDoor
open Go.RowKit
end Go.Proofs.YtaajpliifdlokaaGreatDoor

namespace Go.Proofs.YtaajpliifdlokaaGreatDoor
open Go.RowKit
theorem rdTa_next {w w' : World} {v : Value} {ts : List Ta} (h : RdTa w (· < w.heap.size) v ts) (hb : Below w.heap.size w w') : RdTa w' (· < w'.heap.size) v ts :=
  (h.keep fun p (hp : p.block < w.heap.size) => hb.cell (p := p) hp).more fun b (hb' : b < w.heap.size) => Nat.lt_of_lt_of_le hb' hb.size
end Go.Proofs.YtaajpliifdlokaaGreatDoor

namespace Go.Proofs.YtaajpliifdlokaaGreatDoor
open Go.RowKit
end Go.Proofs.YtaajpliifdlokaaGreatDoor

namespace Go.Proofs.YtaajpliifdlokaaGreatDoor
open Go.RowKit
end Go.Proofs.YtaajpliifdlokaaGreatDoor

namespace Go.Proofs.YtaajpliifdlokaaGreatDoor
open Go.RowKit
def dgL : List ByteArray := [⟨#[48]⟩, ⟨#[49]⟩, ⟨#[50]⟩, ⟨#[51]⟩]
def renC (x : Co) (i : Nat) : Co := ⟨x.name ++ dgL.getD i ⟨#[]⟩, x.cells⟩
def renL (xs : List Co) : List Co := (List.range xs.length).map fun i => renC (xs.getD i Co.z) i
def ProjW (n : Nat) (p : List Po) (m : Nat) : Prop := (p = [] ∧ m = n) ∨ ∃ ks : List Nat, p = [opProj ks] ∧ (∀ k ∈ ks, k < n) ∧ ks.length ≤ 64 ∧ m = ks.length ∧ 0 < ks.length ∧ ks.length < n
end Go.Proofs.YtaajpliifdlokaaGreatDoor

namespace Go.Proofs.YtaajpliifdlokaaGreatDoor
open Go.RowKit
def renTo (xs : List Co) (q : Nat) : List Co := (List.range xs.length).map fun i => if i < q then renC (xs.getD i Co.z) i else xs.getD i Co.z
section
variable {w w' : World} {base : Nat} {e : TypeId} {v : Value} {os : List Po}
theorem PoSt.start (hb : base ≤ w.heap.size) : PoSt w base e (.slice none 0 0) [] := ⟨fun _ => .bool false, Nest.start hb⟩
theorem PoSt.later (h : PoSt w base e v os) (hb : Below w.heap.size w w') (h0 : 0 < base) : PoSt w' base e v os := by
  obtain ⟨vv, h⟩ := h
  exact ⟨vv, h.below (fun i _ => keeps_ks _ _) hb (Nat.le_refl _) h0⟩
theorem PoSt.roll (h : PoSt w base e v os) {B g : Nat} (hr : Roll B g w w') (hB : w.heap.size ≤ B) (hg : g < base) : PoSt w' base e v os := by
  obtain ⟨vv, h⟩ := h
  exact ⟨vv, h.roll (fun i _ => keeps_ks _ _) hr hB hg⟩
theorem PoSt.owns (h : PoSt w base e v os) : ∃ L, w.ownsRow base e 4 v os.length L := by
  obtain ⟨vv, h⟩ := h
  exact ⟨_, h.row⟩
theorem PoSt.low (h : PoSt w base e v os) : base ≤ w.heap.size := by
  obtain ⟨vv, h⟩ := h
  exact h.low
theorem PoSt.read (h : PoSt w base e v os) : RdPo w (fun b => base ≤ b ∧ b < w.heap.size) v os := by
  obtain ⟨vv, h⟩ := h
  exact ⟨vv, (inK_of_owns h.row).more fun b hb => h.row.lt b hb, fun i hi => (h.kids i hi).more fun b hb => ⟨hb.1, hb.2.1⟩⟩
theorem PoSt.push (h : PoSt w base e v os) {L : List Value} (hL : w.ownsRow base e 4 v os.length L) {o : Po} {u : Value} {g n cap : Nat} (hn : n = os.length + 1)
    (hown : w'.ownsRow base e 4 (.slice (some ⟨g, 0, none⟩) n cap) n (L ++ [.int .i64 o.kind, .int .i64 o.col, .string o.text, u])) (hg : w.grownBy w' v.ownBlock) (hat : v.ownBlock = some g ∨ g = w.heap.size)
    (hnew : RdKs w (Own w base v) u o.cols) : PoSt w' base e (.slice (some ⟨g, 0, none⟩) n cap) (os ++ [o]) := by
  obtain ⟨uv, h⟩ := h
  subst hn
  have hLL : L = flatK 4 os.length (poF os uv) := own_same hL h.row
  subst hLL
  refine ⟨fun i => if i = os.length then u else uv i, ?_⟩
  rw [List.length_append, List.length_singleton]
  refine h.push (fun i _ => keeps_ks _ _) hown hg hat ?_ (keeps_ks _ _) ?_ ?_ ?_
  · simpa [List.getD] using hnew
  · intro i hi j hj
    have h1 : i ≠ os.length := by omega
    have h2 : (os ++ [o]).getD i Po.z = os.getD i Po.z := by simp [List.getD, List.getElem?_append_left hi]
    simp only [poF, if_neg h1, h2]
  · simp [poF, poC, List.range_succ, List.getD]
  · intro i hi
    have h1 : i ≠ os.length := by omega
    simp [List.getD, List.getElem?_append_left hi, h1]
end
end Go.Proofs.YtaajpliifdlokaaGreatDoor

namespace Go.Proofs.YtaajpliifdlokaaGreatDoor
open Go.RowKit
theorem DerL.trans {x y z : List Co} (h1 : DerL x y) (h2 : DerL y z) : DerL x z := fun P h0 hs => h2 P (h1 P h0 hs) hs
def FamQ (k : Ta) (t : Ta) : Prop := TabW t.name t.cols ∧ DerL (renL k.cols) t.cols
def FamP (w : World) (g : Nat) (e : Ending) (w' : World) : Prop :=
  ∃ (k : Ta) (ts : List Ta) (v : Value), e = .returned v ∧ KTabOk k ∧ 3 ≤ ts.length ∧ ts.length ≤ 4 ∧ (∀ i, i < ts.length → (ts.getD i Ta.z).id = (i : Int) + 1) ∧ (∀ t ∈ ts, FamQ k t) ∧ RdTa w' (News w w') v ts ∧ KDice w' g ∧ Roll w.heap.size g w w'
end Go.Proofs.YtaajpliifdlokaaGreatDoor

namespace Go.Proofs.YtaajpliifdlokaaGreatDoor
open Go.RowKit
end Go.Proofs.YtaajpliifdlokaaGreatDoor

namespace Go.Proofs.YtaajpliifdlokaaGreatDoor
open Go.RowKit
def FindP (w : World) (B : Nat) (t : Ta) (e : Ending) (w' : World) : Prop :=
  ∃ u, e = .returned (.tuple #[.agg #[.int .i64 t.id, .string t.name, u], .bool true]) ∧ RdCo w (· < B) u t.cols ∧ Below w.heap.size w w'
end Go.Proofs.YtaajpliifdlokaaGreatDoor

namespace Go.Proofs.YtaajpliifdlokaaGreatDoor
open Go.RowKit
def RdI (w : World) (B : Nat) (a : Option Addr) (n c : Nat) : Prop :=
  n ≤ c ∧ c ≤ maxLen ∧ (0 < n → ∃ b o, a = some ⟨b, o, none⟩ ∧ b < B ∧ ∀ i, i < n → ∃ z : Int, w.cell? ⟨b, o + i, none⟩ = some (.int .i64 z))
theorem kit_Light (a : Option Addr) (n c : Nat) (w : World) (hn : n ≤ maxLen) : Calls Tryz.prog 8 #[.slice a n c] w (fun e w' => e = .returned (.bool (decide (n ≤ 500))) ∧ w = w') := by
  unfold maxLen at hn
  by_cases h : n ≤ 500
  · have h1 : decide ((n : Int) ≤ 500) = true := decide_eq_true (by omega)
    have h2 : decide (n ≤ 500) = true := decide_eq_true h
    go_enter Tryz.func8, Tryz.ntmps8
    go_wp2_with fail
    go_ret
    exact ⟨ret_bool (by simp [h]), rfl⟩
  · have h1 : decide ((n : Int) ≤ 500) = false := decide_eq_false (by omega)
    have h2 : decide (n ≤ 500) = false := decide_eq_false h
    go_enter Tryz.func8, Tryz.ntmps8
    go_wp2_with fail
    go_ret
    exact ⟨ret_bool (by simp [h]), rfl⟩
def KRoll (w : World) (e : Ending) (w' : World) : Prop := e = .returned (.pointer (some ⟨w.heap.size, 0, none⟩)) ∧ KDice w' w.heap.size ∧ Below w.heap.size w w'
theorem kroll {w : World} {a : Option Addr} {n c : Nat} (h : RdI w w.heap.size a n c) (hn : n ≤ 500) (hp : Pow w) : KRoll w (.returned (.pointer (some ⟨w.heap.size, 0, none⟩))) (w.alloc (.cells #[.slice a n c, .int .i64 0] 86)) := by
  have hb : Below w.heap.size w (w.alloc (.cells #[.slice a n c, .int .i64 0] 86)) := (Below.refl _ _).alloc (Nat.le_refl _) _
  refine ⟨rfl, ⟨⟨hp.lt, hp.below hb (Nat.le_refl _)⟩, a, n, c, 0, heap_alloc_new _ _, Nat.zero_le _, hn, fun h0 => ?_⟩, hb⟩
  obtain ⟨b, o, e, hlt, hc⟩ := h.2.2 h0
  refine ⟨b, o, e, hlt, fun i hi => ?_⟩
  obtain ⟨z, hz⟩ := hc i hi
  exact ⟨z, (World.cell?_alloc_lt _ _ ⟨b, o + i, none⟩ hlt).trans hz⟩
theorem kit_Roll (a : Option Addr) (n c : Nat) (w : World) (h : RdI w w.heap.size a n c) (hn : n ≤ 500) (hp : Pow w) : Calls Tryz.prog 11 #[.slice a n c] w (KRoll w) := by
  have H := hid (kroll h hn hp)
  clear h hp
  go_enter Tryz.func11, Tryz.ntmps11
  go_wp2_with fail
  go_ret
  exact H.out
end Go.Proofs.YtaajpliifdlokaaGreatDoor

namespace Go.Proofs.YtaajpliifdlokaaGreatDoor
open Go.RowKit
theorem ta_at {w : World} {S : Nat → Prop} {v : Value} {ts : List Ta} (h : RdTa w S v ts) {q : Nat} (hq : q < ts.length) : ∃ b o c x y, v = .slice (some ⟨b, o, none⟩) ts.length c ∧ S b ∧ RdCo w S (.slice x (ts.getD q Ta.z).cols.length y) (ts.getD q Ta.z).cols ∧
    w.cell? ⟨b, o + q * 3, none⟩ = some (.int .i64 (ts.getD q Ta.z).id) ∧ w.cell? ⟨b, o + q * 3 + 1, none⟩ = some (.string (ts.getD q Ta.z).name) ∧ w.cell? ⟨b, o + q * 3 + 2, none⟩ = some (.slice x (ts.getD q Ta.z).cols.length y) := by
  obtain ⟨tv, ⟨a, c, rfl, -, -, hr⟩, hk⟩ := h
  obtain ⟨b, o, rfl, hb, hc⟩ := hr (by omega)
  have hkq := hk q hq
  obtain ⟨cv, ⟨x, y, e, -⟩, -⟩ := hkq
  have hkq := hk q hq
  have h2 := hc q hq 2 (by omega)
  simp only [taF, three] at h2
  rw [e] at hkq h2
  exact ⟨b, o, c, x, y, rfl, hb, hkq, hc q hq 0 (by omega), hc q hq 1 (by omega), h2⟩
end Go.Proofs.YtaajpliifdlokaaGreatDoor

namespace Go.Proofs.YtaajpliifdlokaaGreatDoor
open Go.RowKit
theorem co_at {w : World} {S : Nat → Prop} {v : Value} {xs : List Co} (h : RdCo w S v xs) {q : Nat} (hq : q < xs.length) : ∃ b o c uv, v = .slice (some ⟨b, o, none⟩) xs.length c ∧ S b ∧ RdCl w S uv (xs.getD q Co.z).cells ∧ w.cell? ⟨b, o + q * 2, none⟩ = some (.string (xs.getD q Co.z).name) ∧ w.cell? ⟨b, o + q * 2 + 1, none⟩ = some uv := by
  obtain ⟨cv, ⟨a, c, e, -, -, hr⟩, hk⟩ := h
  obtain ⟨b, o, rfl, hb, hc⟩ := hr (by omega)
  exact ⟨b, o, c, cv q, e, hb, hk q hq, hc q hq 0 (by omega), hc q hq 1 (by omega)⟩
end Go.Proofs.YtaajpliifdlokaaGreatDoor

namespace Go.Proofs.YtaajpliifdlokaaGreatDoor
open Go.RowKit Go.Shelf
attribute [local go_sem] Oper.semAt_some
def keyU (s : ByteArray) : Lit := .string s.data.toList
theorem keyU_inj {s t : ByteArray} (h : keyU s = keyU t) : s = t := by
  obtain ⟨⟨s⟩⟩ := s
  obtain ⟨⟨t⟩⟩ := t
  simp [keyU] at h
  subst h
  rfl
theorem law_strU : Go.Maps.Keyed Tryz.prog 9 := Go.Maps.string_keyed Tryz.underlying9
structure NumOk (D : DataW Unit) (F : ByteArray → Option Nat) : Prop where
  map : Go.Maps.IsMap D
  has : ∀ s, Go.Maps.has D (keyU s) = (F s).isSome
  look : ∀ s, D.atKey (keyU s) (.lit (.int .i64 0)) = .lit (.int .i64 (((F s).getD 0 : Nat) : Int))
theorem NumOk.start : NumOk (.map []) (fun _ => none) := ⟨Go.Maps.isMap_empty, fun s => by simp [Go.Maps.has], fun s => rfl⟩
def setF1 (F : ByteArray → Option Nat) (s : ByteArray) (i : Nat) : ByteArray → Option Nat := fun t => if t = s then some i else F t
theorem NumOk.put {D : DataW Unit} {F : ByteArray → Option Nat} (h : NumOk D F) (s : ByteArray) (i : Nat) : NumOk (D.put (keyU s) (.lit (.int .i64 (i : Int)))) (setF1 F s i) := by
  have hk : Go.WideAt.IsKeyLit (keyU s) := by unfold keyU Go.WideAt.IsKeyLit; trivial
  refine ⟨h.map.put _ _, fun t => ?_, fun t => ?_⟩
  · unfold setF1
    by_cases e : t = s
    · subst e
      rw [if_pos rfl, Go.Maps.has_put_same h.map hk]; rfl
    · rw [if_neg e, Go.Maps.has_put_other (fun e2 => e (keyU_inj e2))]
      exact h.has t
  · unfold setF1
    by_cases e : t = s
    · subst e
      rw [if_pos rfl, Go.Maps.atKey_put_same h.map hk]; rfl
    · rw [if_neg e, Go.Maps.atKey_put_other (fun e2 => e (keyU_inj e2))]
      exact h.look t
def MapI (w : World) (b n : Nat) (F : ByteArray → Option Nat) : Prop :=
  ∃ D : DataW Unit, w.ownsMap Tryz.prog 9 (plainElem (H := Unit) Tryz.prog 3) b n D ∧ NumOk D F
section
variable {w w' : World} {b n : Nat} {F : ByteArray → Option Nat}
theorem MapI.later (h : MapI w b n F) (hk : w'.heap[b]? = w.heap[b]?) : MapI w' b n F := by
  obtain ⟨D, ⟨es, clock, hb, Ft, hs, hD⟩, ho⟩ := h
  exact ⟨D, ⟨es, clock, hk.trans hb, Ft, hs, hD⟩, ho⟩
theorem MapI.lt (h : MapI w b n F) : b < w.heap.size := by
  obtain ⟨D, hown, ho⟩ := h
  exact hown.lt
theorem MapI.drewN (h : MapI w b n F) (k : Nat) : MapI (w.drewN k) b n F := h.later rfl
theorem MapI.congr {F' : ByteArray → Option Nat} (h : MapI w b n F) (e : ∀ s, F s = F' s) : MapI w b n F' := by
  have : F = F' := funext e
  subst this
  exact h
theorem key_str {s : ByteArray} (hs : s.size ≤ maxLen) : keyOf Tryz.prog 9 (.string s) = some (keyU s) := Go.WideMaps.keyOf_string_mk Tryz.underlying9 hs
set_option maxRecDepth 100000 in
theorem MapI.look (h : MapI w b n F) {s : ByteArray} (hs : s.size ≤ maxLen) : (Instr.lookup 129 (.map (some b)) (.string s) false).run Tryz.prog w = .ok (.int .i64 (((F s).getD 0 : Nat) : Int)) w := by
  obtain ⟨D, hown, ho⟩ := h
  obtain ⟨c, hrun, hat, hwc⟩ := hown.lookup_int law_strU Tryz.underlying129 Tryz.underlying3 (Tryz.zeroValue3 _) (key_str hs)
  rw [ho.look s] at hat
  injection hat with hat
  injection hat with _ hat
  rw [hrun, ← hat]
set_option maxRecDepth 100000 in
theorem MapI.look_ok (h : MapI w b n F) {s : ByteArray} (hs : s.size ≤ maxLen) : (Instr.lookup 129 (.map (some b)) (.string s) true).run Tryz.prog w = .ok (.tuple #[.int .i64 (((F s).getD 0 : Nat) : Int), .bool (F s).isSome]) w := by
  obtain ⟨D, hown, ho⟩ := h
  obtain ⟨v, ps, hrun, hv⟩ := hown.look_ok law_strU Tryz.underlying129 (Tryz.zeroValue3 _) (plainElem_int Tryz.underlying3 (by decide)) (key_str hs)
  obtain ⟨c, rfl, hc, hwc⟩ := plainElem_int_inv Tryz.underlying3 hv
  simp only [Prod.mk.injEq] at hc
  have hat := hc.1
  rw [ho.look s] at hat
  injection hat with hat
  injection hat with _ hat
  rw [hrun, ho.has s, ← hat]
theorem MapI.made (w : World) : MapI (w.alloc (.map #[] 0)) w.heap.size 0 (fun _ => none) := ⟨_, World.ownsMap_made w Tryz.prog 9 _, NumOk.start⟩
end
end Go.Proofs.YtaajpliifdlokaaGreatDoor

namespace Go.Proofs.YtaajpliifdlokaaGreatDoor
open Go.RowKit
end Go.Proofs.YtaajpliifdlokaaGreatDoor

namespace Go.Proofs.YtaajpliifdlokaaGreatDoor
open Go.RowKit
def SetSt (w wr : World) (xs : List ByteArray) (k : Nat) (v : Value) (acc : List ByteArray) : Prop :=
  acc = (xs.take k).foldl put1 [] ∧ wr.ownsRow w.heap.size 9 1 v acc.length (acc.map Value.string) ∧ (acc.length = 0 → v = .slice none 0 0) ∧ Below w.heap.size w wr
end Go.Proofs.YtaajpliifdlokaaGreatDoor
