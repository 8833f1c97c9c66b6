/- Proved: called with any arguments of its types, CopiesTop returns true, and its arguments read as before. Go's own tables hold what the program's text lays, which the card ties; no other conditions. -/
import Derived.Test.YthblaeleogdfpaaGreatDoorCToaa
import Derived.Test.YthblaeleogdfpaaGreatDoorTie
import Derived.Test.YthblaeleogdfpaaGreatDoorCards
import Derived.Carry
import Derived.SizedLaws
import Derived.ProofKit
import Derived.OpenShut
import Derived.ChangeSlices
import Derived.SliceStrings
import Derived.LaidLaws
import Derived.LaidMore
import Derived.Lib.LaidU8T
import Derived.PinnedBridge
import Derived.SevenTiedAt
import Derived.Test.YthblaeleogdfpaaGreatDoorCToaf
import Derived.Test.YthblaeleogdfpaaGreatDoorCTobp
import Derived.Deep.SlicePairs
import Derived.Test.YthblaeleogdfpaaGreatDoorCToab
import Derived.Test.YthblaeleogdfpaaGreatDoorCToat
import Derived.Test.YthblaeleogdfpaaGreatDoorCTobr
set_option linter.unusedVariables false
set_option linter.unusedSimpArgs false
namespace Go.Proofs.YthblaeleogdfpaaGreatDoor
open Go.RowKit
def RdU (w : World) (B : Nat) (a : Option Addr) (n c : Nat) : Prop :=
  n ≤ c ∧ c ≤ maxLen ∧ (0 < n → ∃ b o, a = some ⟨b, o, none⟩ ∧ b < B ∧ ∀ i, i < n → ∃ x : Nat, x < 256 ∧ w.cell? ⟨b, o + i, none⟩ = some (.int .u8 (x : Int)))
end Go.Proofs.YthblaeleogdfpaaGreatDoor

namespace Go.Proofs.YthblaeleogdfpaaGreatDoor
open Go.ChangeShapes Go.WideShapes Go.ChangeAt Go.RowKit Go.Lib
set_option linter.unusedVariables false
theorem kOwn : ownKnob Tryz.prog.godebug = none := by kernel_rfl
theorem kLaid : laidOutB Tryz.prog = true := by kernel_rfl
noncomputable def laidWorld (os : Os) : World :=
  let w0 := World.doorLaid Tryz.prog 400 os
  { w0 with heap := w0.heap.modify 1 fun
      | .cells _ t frozen => .cells (Lib.firstTab.map fun z => Value.int .u8 z).toArray t frozen
      | o => o }
theorem tabs_of {l : List (String × DataW Unit)} {W : World} (h : laidMet Tryz.prog l W) (h1 : ("unicode/utf8.first", Rows.laid_unicode_utf8_first) ∈ l) (h2 : ("unicode/utf8.acceptRanges", Rows.laid_unicode_utf8_acceptRanges) ∈ l) : Tabs W := by
  have e1 : (Rows.laid_unicode_utf8_first : DataW Unit) = Lib.firstData := Go.Pinned.utf8First_eq
  have e2 : (Rows.laid_unicode_utf8_acceptRanges : DataW Unit) = Lib.acceptData := by kernel_rfl
  have r1 := Lib.laidMet.reads h h1
  have r2 := Lib.laidMet.reads h h2
  rw [e1] at r1
  rw [e2] at r2
  exact utf8Tabs_of_readsT (U8Types.of196 Tryz.layValid) ⟨by kernel_rfl, by kernel_rfl, by kernel_rfl, by kernel_rfl, by kernel_rfl, by kernel_rfl, by kernel_rfl⟩ r1 r2
end Go.Proofs.YthblaeleogdfpaaGreatDoor

namespace Go.Proofs.YthblaeleogdfpaaGreatDoor
open Go.ChangeShapes Go.RowKit Go.Lib
theorem tabIs_of_reads {P : Program} {W : World} {name : String} {k : IntKind} {zs : List Int} {g : Nat} {t e : TypeId} {n : Nat}
    (hg : P.globalNamed name = some g) (hty : (P.globals[g]?).map (·.type) = some t) (ht : P.underlying t = some (.array n e)) (he : P.underlying e = some (.int k)) (hce : P.cellsOf e = 1) (hct : P.cellsOf t = n)
    (h : VarReads P W name (tabData k zs)) : TabIs P W name k zs := by
  obtain ⟨g', t', cs, fuel, p, hg', ht', hvar, hd⟩ := h
  obtain rfl := Option.some.inj (hg.symm.trans hg')
  obtain rfl := Option.some.inj (hty.symm.trans ht')
  unfold TabIs
  rw [hvar, ← cells_of_tab ht he hce hct hd]
theorem pow_of {l : List (String × DataW Unit)} {W : World} (h : laidMet Tryz.prog l W) (h1 : ("internal/strconv.uint64pow10", Rows.laid_internal_strconv_uint64pow10) ∈ l) : Pow W := by
  have e1 : (Rows.laid_internal_strconv_uint64pow10 : DataW Unit) = tabData .u64 pow10Tab := by kernel_rfl
  have r1 := laidMet.reads h h1
  rw [e1] at r1
  exact tabIs_of_reads pow_named (t := 293) (e := 194) (n := 20) (by kernel_rfl) (by kernel_rfl) (by kernel_rfl) (by kernel_rfl) (by kernel_rfl) r1
theorem kCellsI : Tryz.prog.cellsOf 3 = 1 := by kernel_rfl
theorem rdI_of {W : World} {a : Addr} {len cap : Nat} {zs : List Int} (hl : len ≤ cap) (hm : cap ≤ maxLen) (hz : zs.length = cap) (hcell : ∀ i, i < zs.length → W.cell? (a.add i) = some (.int .i64 (zs.getD i 0))) (_hw : ∀ n ∈ zs, (Lit.int .i64 n).wf = true) :
    RdI W W.heap.size (some a) len cap := by
  refine ⟨hl, hm, fun hp => ?_⟩
  obtain ⟨b, o, spot⟩ := a
  have hspot : spot = none := by simpa [Addr.add] using World.cell?_spot (hcell 0 (by omega))
  subst hspot
  have hlt : b < W.heap.size := by
    have h := hcell 0 (by omega)
    exact World.block_lt_of_cell? W (Addr.add ⟨b, o, none⟩ 0) h
  refine ⟨b, o, rfl, hlt, fun i hi => ⟨zs.getD i 0, ?_⟩⟩
  rw [← Addr.add_lit]
  exact hcell i (by omega)
end Go.Proofs.YthblaeleogdfpaaGreatDoor

namespace Go.Proofs.YthblaeleogdfpaaGreatDoor
open Go.RowKit Go.Deep Go.ChangeShapes Go.WideShapes
theorem len_range {α : Type} (n : Nat) (f : Nat → α) : ((List.range n).map f).length = n := by rw [List.length_map, List.length_range]
theorem getD_range {α : Type} {n i : Nat} (f : Nat → α) (d : α) (h : i < n) : ((List.range n).map f).getD i d = f i := by simp [List.getD, h]
theorem list_three {α : Type} : ∀ {l : List α}, l.length = 3 → ∃ a b c, l = [a, b, c]
  | [a, b, c], _ => ⟨a, b, c, rfl⟩
theorem spot_none {W : World} {a : Addr} {v : Value} (h : W.cell? (a.add (0 * 2)) = some v) : ∃ b o, a = ⟨b, o, none⟩ ∧ b < W.heap.size := by
  rw [Nat.zero_mul] at h
  obtain ⟨b, o, spot⟩ := a
  have hs : spot = none := by simpa [Addr.add] using World.cell?_spot h
  subst hs
  exact ⟨b, o, rfl, World.block_lt_of_cell? W (Addr.add ⟨b, o, none⟩ 0) h⟩
section
variable {H : Type} {enc : TypeId × Value → H} {W : World} {base : Nat} {spare : Nat → Bool} {held : Bool}
theorem open_cells {fuel : Nat} {v : Value} {x : DataW H × List MemPlace} (h : DataW.trod enc Tryz.prog W base spare held fuel 28 [v] = some x) : ∃ cells : List Cl, RdCl W (· < W.heap.size) v cells ∧ ∀ c ∈ cells, c.text.size ≤ maxLen := by
  rcases open_slice_pairs Tryz.underlying28 Tryz.underlying104 (by kernel_rfl) rfl rfl (by kernel_rfl) (by kernel_rfl) h with ⟨hcs, -⟩ | ⟨a, len, cap, m, n, V0, V1, D0, D1, P0, P1, hcs, hb, hl, hm, hmm, hx, hcell⟩
  · obtain rfl : v = .slice none 0 0 := by simpa using hcs
    exact ⟨[], InK.nil, fun _ h => absurd h (by simp)⟩
  · obtain rfl : v = .slice (some a) len cap := by simpa using hcs
    have hlm : len ≤ m := by rw [hmm]; split <;> omega
    have each : ∀ i, i < len → ∃ c : Cl, W.cell? (a.add (i * 2)) = some (.bool c.null) ∧ W.cell? (a.add (i * 2 + 1)) = some (.string c.text) ∧ c.text.size ≤ maxLen := by
      intro i hi
      obtain ⟨h0, h1, h2, h3⟩ := hcell i (by omega)
      obtain ⟨b, e0, -⟩ := DataW.trod_bool Tryz.underlying4 h2
      obtain ⟨s, e1, -, hs⟩ := DataW.trod_string Tryz.underlying9 h3
      have e0' : V0 i = .bool b := by simpa using e0
      have e1' : V1 i = .string s := by simpa using e1
      exact ⟨⟨b, s⟩, by rw [h0, e0'], by rw [h1, e1'], hs⟩
    have each2 : ∀ i, i < len → ∃ c : Cl, (W.cell? (a.add (i * 2)) = some (.bool c.null) ∧ W.cell? (a.add (i * 2 + 1)) = some (.string c.text)) ∧ c.text.size ≤ maxLen := fun i hi => by
      obtain ⟨c, q1, q2, q3⟩ := each i hi
      exact ⟨c, ⟨q1, q2⟩, q3⟩
    haveI : Inhabited Cl := ⟨Cl.z⟩
    obtain ⟨f, hf⟩ := choose_lt each2
    refine ⟨(List.range len).map f, ⟨some a, cap, by rw [len_range], by rw [len_range]; exact hl, hm, fun hp => ?_⟩, fun c hc => ?_⟩
    · rw [len_range] at hp
      obtain ⟨b, o, rfl, hbl⟩ := spot_none (hf 0 hp).1.1
      refine ⟨b, o, rfl, hbl, fun i hi j hj => ?_⟩
      rw [len_range] at hi
      obtain ⟨⟨q1, q2⟩, -⟩ := hf i hi
      rw [Addr.add_lit] at q1 q2
      have e := getD_range f Cl.z hi
      rcases (by omega : j = 0 ∨ j = 1) with rfl | rfl
      · rw [Nat.add_zero, q1]
        unfold clF two
        rw [e]
        rfl
      · rw [Nat.add_assoc, q2]
        unfold clF two
        rw [e]
        rfl
    · obtain ⟨i, hi, rfl⟩ := List.mem_map.1 hc
      exact (hf i (List.mem_range.1 hi)).2
theorem open_cols {fuel : Nat} {v : Value} {x : DataW H × List MemPlace} (h : DataW.trod enc Tryz.prog W base spare held fuel 22 [v] = some x) : ∃ cols : List Co, RdCo W (· < W.heap.size) v cols ∧ ∀ c ∈ cols, c.name.size ≤ maxLen ∧ ∀ d ∈ c.cells, d.text.size ≤ maxLen := by
  rcases open_slice_pairs Tryz.underlying22 Tryz.underlying30 (by kernel_rfl) rfl rfl (by kernel_rfl) (by kernel_rfl) h with ⟨hcs, -⟩ | ⟨a, len, cap, m, n, V0, V1, D0, D1, P0, P1, hcs, hb, hl, hm, hmm, hx, hcell⟩
  · obtain rfl : v = .slice none 0 0 := by simpa using hcs
    exact ⟨[], ⟨fun _ => .bool false, InK.nil, fun _ h => absurd h (by simp)⟩, fun _ h => absurd h (by simp)⟩
  · obtain rfl : v = .slice (some a) len cap := by simpa using hcs
    have hlm : len ≤ m := by rw [hmm]; split <;> omega
    have each : ∀ i, i < len → ∃ c : Co, (W.cell? (a.add (i * 2)) = some (.string c.name) ∧ W.cell? (a.add (i * 2 + 1)) = some (V1 i)) ∧ RdCl W (· < W.heap.size) (V1 i) c.cells ∧ c.name.size ≤ maxLen ∧ ∀ d ∈ c.cells, d.text.size ≤ maxLen := by
      intro i hi
      obtain ⟨h0, h1, h2, h3⟩ := hcell i (by omega)
      obtain ⟨s, e0, -, hs⟩ := DataW.trod_string Tryz.underlying9 h2
      obtain ⟨cells, hcl, hsz⟩ := open_cells h3
      have e0' : V0 i = .string s := by simpa using e0
      exact ⟨⟨s, cells⟩, ⟨by rw [h0, e0'], h1⟩, hcl, hs, hsz⟩
    haveI : Inhabited Co := ⟨Co.z⟩
    obtain ⟨f, hf⟩ := choose_lt each
    refine ⟨(List.range len).map f, ⟨V1, ⟨some a, cap, by rw [len_range], by rw [len_range]; exact hl, hm, fun hp => ?_⟩, fun i hi => ?_⟩, fun c hc => ?_⟩
    · rw [len_range] at hp
      obtain ⟨b, o, rfl, hbl⟩ := spot_none (hf 0 hp).1.1
      refine ⟨b, o, rfl, hbl, fun i hi j hj => ?_⟩
      rw [len_range] at hi
      obtain ⟨⟨q1, q2⟩, -⟩ := hf i hi
      rw [Addr.add_lit] at q1 q2
      have e := getD_range f Co.z hi
      rcases (by omega : j = 0 ∨ j = 1) with rfl | rfl
      · rw [Nat.add_zero, q1]
        unfold coF two
        rw [e]
        rfl
      · rw [Nat.add_assoc, q2]
        rfl
    · rw [len_range] at hi
      rw [getD_range f Co.z hi]
      exact (hf i hi).2.1
    · obtain ⟨i, hi, rfl⟩ := List.mem_map.1 hc
      exact (hf i (List.mem_range.1 hi)).2.2
theorem open_tab {fuel : Nat} {cs : List Value} {x : DataW H × List MemPlace} (h : DataW.trod enc Tryz.prog W base spare held fuel 24 cs = some x) :
    ∃ (t : Ta) (v : Value), cs = [.int .i64 t.id, .string t.name, v] ∧ RdCo W (· < W.heap.size) v t.cols ∧ (Lit.int .i64 t.id).wf = true ∧ t.name.size ≤ maxLen ∧ ∀ c ∈ t.cols, c.name.size ≤ maxLen ∧ ∀ d ∈ c.cells, d.text.size ≤ maxLen := by
  obtain ⟨xs, k, -, -, hlen, hxl, hf⟩ := DataW.trod_struct Tryz.underlying24 h
  have h3 : Tryz.prog.cellsOf 24 = 3 := by kernel_rfl
  rw [h3] at hlen
  obtain ⟨c0, c1, c2, rfl⟩ := list_three hlen
  obtain ⟨y0, y1, y2, rfl⟩ := list_three (show xs.length = 3 from hxl)
  clear hlen hxl h
  have k1 : Tryz.prog.cellsOf 3 = 1 := by kernel_rfl
  have k2 : Tryz.prog.cellsOf 9 = 1 := by kernel_rfl
  have k3 : Tryz.prog.cellsOf 22 = 1 := by kernel_rfl
  have g0 := hf 0 _ rfl
  have g1 := hf 1 _ rfl
  have g2 := hf 2 _ rfl
  clear hf
  simp [k1, k2, k3] at g0 g1 g2
  obtain ⟨n, e0, -, hw⟩ := DataW.trod_int Tryz.underlying3 g0
  obtain ⟨s, e1, -, hs⟩ := DataW.trod_string Tryz.underlying9 g1
  obtain ⟨cols, hc, hsz⟩ := open_cols g2
  obtain rfl : c0 = .int .i64 n := (List.cons.inj e0).1
  obtain rfl : c1 = .string s := (List.cons.inj e1).1
  exact ⟨⟨n, s, cols⟩, c2, rfl, hc, hw, hs, hsz⟩
theorem open_tabs {fuel : Nat} {v : Value} {x : DataW H × List MemPlace} (h : DataW.trod enc Tryz.prog W base spare held fuel 68 [v] = some x) :
    ∃ ts : List Ta, RdTa W (· < W.heap.size) v ts ∧ ∀ t ∈ ts, (Lit.int .i64 t.id).wf = true ∧ t.name.size ≤ maxLen ∧ ∀ c ∈ t.cols, c.name.size ≤ maxLen ∧ ∀ d ∈ c.cells, d.text.size ≤ maxLen := by
  rcases open_slice Tryz.underlying68 h with ⟨hcs, -⟩ | ⟨a, len, cap, m, n, D, Pl, hcs, hb, hl, hm, hmm, hx, hcell⟩
  · obtain rfl : v = .slice none 0 0 := by simpa using hcs
    exact ⟨[], ⟨fun _ => .bool false, InK.nil, fun _ h => absurd h (by simp)⟩, fun _ h => absurd h (by simp)⟩
  · obtain rfl : v = .slice (some a) len cap := by simpa using hcs
    have hlm : len ≤ m := by rw [hmm]; split <;> omega
    have h3 : Tryz.prog.cellsOf 24 = 3 := by kernel_rfl
    have each : ∀ i, i < len → ∃ q : Ta × Value, (W.cell? (a.add (i * 3)) = some (.int .i64 q.1.id) ∧ W.cell? ((a.add (i * 3)).add 1) = some (.string q.1.name) ∧ W.cell? ((a.add (i * 3)).add 2) = some q.2) ∧ RdCo W (· < W.heap.size) q.2 q.1.cols ∧
        ((Lit.int .i64 q.1.id).wf = true ∧ q.1.name.size ≤ maxLen ∧ ∀ c ∈ q.1.cols, c.name.size ≤ maxLen ∧ ∀ d ∈ c.cells, d.text.size ≤ maxLen) := by
      intro i hi
      obtain ⟨cs', h1, h2⟩ := hcell i (by omega)
      rw [h3] at h1
      obtain ⟨-, -, hc⟩ := World.cells?_some h1
      obtain ⟨t, u, rfl, hr, hw⟩ := open_tab h2
      have c0 := hc 0 (by omega)
      have c1 := hc 1 (by omega)
      have c2 := hc 2 (by omega)
      rw [Deep.add_add, Nat.add_zero] at c0
      exact ⟨(t, u), ⟨c0, c1, c2⟩, hr, hw⟩
    haveI : Inhabited Ta := ⟨⟨0, ⟨#[]⟩, []⟩⟩
    haveI : Inhabited (Ta × Value) := ⟨(default, .bool false)⟩
    obtain ⟨f, hf⟩ := choose_lt each
    refine ⟨(List.range len).map fun i => (f i).1, ⟨fun i => (f i).2, ⟨some a, cap, by rw [len_range], by rw [len_range]; exact hl, hm, fun hp => ?_⟩, fun i hi => ?_⟩, fun c hc => ?_⟩
    · rw [len_range] at hp
      obtain ⟨b, o, rfl, hbl⟩ := spot_none (a := a) (by have h := (hf 0 hp).1.1; rw [Nat.zero_mul] at h ⊢; exact h)
      refine ⟨b, o, rfl, hbl, fun i hi j hj => ?_⟩
      rw [len_range] at hi
      obtain ⟨⟨q1, q2, q3⟩, -⟩ := hf i hi
      rw [Addr.add_lit] at q1 q2 q3
      rw [Addr.add_lit] at q2 q3
      have e := getD_range (fun i => (f i).1) Ta.z hi
      rcases (by omega : j = 0 ∨ j = 1 ∨ j = 2) with rfl | rfl | rfl
      · rw [Nat.add_zero, q1]
        unfold taF three
        rw [e]
        rfl
      · rw [q2]
        unfold taF three
        rw [e]
        rfl
      · rw [q3]
        rfl
    · rw [len_range] at hi
      rw [getD_range (fun i => (f i).1) Ta.z hi]
      exact (hf i hi).2.1
    · obtain ⟨i, hi, rfl⟩ := List.mem_map.1 hc
      exact (hf i (List.mem_range.1 hi)).2.2
end
end Go.Proofs.YthblaeleogdfpaaGreatDoor

namespace Go.Proofs.YthblaeleogdfpaaGreatDoor
open Go.ChangeShapes Go.RowKit Go.Lib
theorem one_named : Tryz.prog.globalNamed "tablefinder/fraction.one" = some 0 := by kernel_rfl
theorem one_type : (Tryz.prog.globals[(0 : Nat)]?).map (·.type) = some 210 := by kernel_rfl
theorem kCells32 : Tryz.prog.cellsOf 157 = 1 := by kernel_rfl
theorem one_var {W : World} {cs : Array Value} {v : Value} (h : W.var? Tryz.prog "tablefinder/fraction.one" = some cs) (hc : cs.toList = [v]) : W.cell? ⟨0, 0, none⟩ = some v := by
  unfold World.var? at h
  rw [one_named] at h
  simp only [Option.bind_some] at h
  split at h
  · rename_i c t fr hb
    obtain rfl := Option.some.inj h
    have e : c = #[v] := by cases c; simp_all
    subst e
    simp [World.cell?, hb]
  · cases h
theorem one_of {l : List (String × DataW Unit)} {W : World} (h : laidMet Tryz.prog l W) (h1 : ("tablefinder/fraction.one", Rows.laid_tablefinder_fraction_one) ∈ l) : Fr.OneAt W := by
  obtain ⟨g', t', cs, fuel, p, hg', ht', hvar, hd⟩ := laidMet.reads h h1
  obtain rfl := Option.some.inj (one_named.symm.trans hg')
  obtain rfl := Option.some.inj (one_type.symm.trans ht')
  rcases open_ints Tryz.underlying210 Tryz.underlying157 kCells32 hd with ⟨hcs, hx⟩ | ⟨a, len, cap, zs, hcs, -, hl, hm, hz, hx, hcell, -⟩
  · have := congrArg Prod.fst hx
    cases this
  · have hx1 := congrArg Prod.fst hx
    simp only [Rows.laid_tablefinder_fraction_one, DataW.slice.injEq] at hx1
    obtain ⟨e1, e2⟩ := hx1
    have hz' : zs.length = cap := by simpa using hz
    have l1 := congrArg List.length e1
    have l2 := congrArg List.length e2
    simp [lits] at l1 l2
    have hlen : len = 1 := by omega
    have hcap : cap = 1 := by omega
    subst hlen hcap
    obtain ⟨z, rfl⟩ : ∃ z, zs = [z] := List.length_eq_one_iff.1 hz'
    simp [lits] at e1
    subst e1
    have hc := hcell 0 (by simp)
    have hsp := World.cell?_spot hc
    obtain ⟨b, o, spot⟩ := a
    have hspot : spot = none := by simpa [Addr.add] using hsp
    subst hspot
    have hlt : b < W.heap.size := World.block_lt_of_cell? W (Addr.add ⟨b, o, none⟩ 0) hc
    have hv := one_var hvar hcs
    have hgl : (0 : Nat) < W.heap.size := World.block_lt_of_cell? W ⟨0, 0, none⟩ hv
    have hd1 : Fr.dig 1 = [1] := Fr.dig_one_digit (by omega) (by omega)
    refine ⟨_, _, hv, ?_, hgl⟩
    rw [hd1]
    refine ⟨some ⟨b, o, none⟩, 1, rfl, by decide, hm, ?_, fun _ => ⟨b, o, rfl, hlt, fun i hi => ?_⟩⟩
    · rw [← hd1]; exact Fr.digs_dig 1
    have hi0 : i = 0 := by simpa using hi
    subst hi0
    rw [← Addr.add_lit]
    exact hc
end Go.Proofs.YthblaeleogdfpaaGreatDoor

namespace Go.Proofs.YthblaeleogdfpaaGreatDoor
open Go.ChangeShapes Go.WideShapes Go.ChangeAt Go.RowKit Go.Lib
set_option linter.unusedVariables false
theorem door_met (os : Os) (args : Array Value) : laidMetH Tryz.prog Rows.copiesTopRow.laid ((laidWorld os).forCall (fun _ _ => 0) ⟨#[], args, []⟩).memory :=
  laidMetH_of_parts3 (fuel := 8) (laidMet_of_run' 8 (by kernel_rfl) (by kernel_rfl)) (by kernel_rfl) (by kernel_rfl)
set_option maxRecDepth 100000 in
theorem lifted (os : Os) (started : os.Started) (H : Type) (enc : TypeId × Value → H) :
  ReturnsInHanded {} Tryz.checked os 6 .any (fun w args => (Rows.copiesTopSpec.pre enc Tryz.prog Tryz.f6 [] false w args ∧ laidMetH Tryz.prog Rows.copiesTopRow.laid w) ∧ sizedMet enc Tryz.prog Tryz.f6 (OpenSpec.ofChange Rows.copiesTopSpec) false w args)
   (Rows.copiesTopSpec.post enc Tryz.prog Tryz.f6 false true false false) := by
 refine returnsInHanded_of_change_and (C := Tryz.checked) (X := fun w _ => laidMetH Tryz.prog Rows.copiesTopRow.laid w) (fun _ _ _ hh h => h.of_heap hh) kOwn started (by kernel_rfl) Tryz.func6
  (ChangeSpec.witness_shaped (enc := enc) (C := Tryz.checked) (os := os) (X := fun w _ => laidMetH Tryz.prog Rows.copiesTopRow.laid w) false (laidWorld os) #[.slice none 0 0, .slice none 0 0, .int .i64 0] 8 rfl (World.shaped_of_RefB (by kernel_rfl) (by kernel_rfl)) (by kernel_rfl) (by kernel_rfl) (by kernel_rfl) (door_met os _)) ?_
 intro W base args ds gs before hval0 hW _ _ hL _
 have hval : ∀ (j : Nat) t v, Tryz.f6.params[j]? = some t → args[j]? = some v → Value.okWide Tryz.prog W .any base t v := hval0
 have hW' := hW
 obtain ⟨p, q, hA0, hV, rfl, _, _⟩ := hW
 have hA : DataW.TrodAll enc Tryz.prog W 0 (fun _ => true) true Tryz.f6.params.toList args.toList ds p := hA0
 rw [Tryz.params6] at hA hval
 obtain ⟨v0, vs0, d0, ds0, p0, q0, hargs, rfl, rfl, h0, r0⟩ := trodAll_cons hA
 obtain ⟨v1, vs1, d1, ds1, p1, q1, rfl, rfl, rfl, h1, r1⟩ := trodAll_cons r0
 obtain ⟨v2, vs2, d2, ds2, p2, q2, rfl, rfl, rfl, h2, r2⟩ := trodAll_cons r1
 obtain ⟨rfl, rfl, rfl⟩ := trodAll_nil r2
 obtain rfl : args = #[v0, v1, v2] := by cases args; simp_all
 obtain ⟨rfl, rfl⟩ := trodVars_none hV
 have h0k := h0
 obtain ⟨fuel0, hf0⟩ := h0
 have h1k := h1
 obtain ⟨fuel1, hf1⟩ := h1
 obtain ⟨Z2, rfl, rfl, rfl, w2⟩ := open_int Tryz.underlying3 (hval 2 3 v2 rfl rfl) h2
 clear hA0 hval0
 simp only [List.append_nil] at hW'
 have hlt0 : ∀ x ∈ p0, x.block < W.heap.size := fun x hx => by
  have := hW'.lt x (by first | exact hx | simpa using hx | simp [hx])
  simpa using this
 have hlt1 : ∀ x ∈ p1, x.block < W.heap.size := fun x hx => by
  have := hW'.lt x (by first | exact hx | simpa using hx | simp [hx])
  simpa using this
 have TABS : Tabs W := by
  have hm : laidMetH Tryz.prog Rows.copiesTopRow.laid W := hL
  rw [MakeChecks.laidMetH_plain _ _ _ (by kernel_rfl)] at hm
  exact tabs_of hm (by simp [Rows.copiesTopRow]) (by simp [Rows.copiesTopRow])
 have POW : Pow W := by
  have hm : laidMetH Tryz.prog Rows.copiesTopRow.laid W := hL
  rw [MakeChecks.laidMetH_plain _ _ _ (by kernel_rfl)] at hm
  exact pow_of hm (by simp [Rows.copiesTopRow])
 have ONE : Fr.OneAt W := by
  have hm : laidMetH Tryz.prog Rows.copiesTopRow.laid W := hL
  rw [MakeChecks.laidMetH_plain _ _ _ (by kernel_rfl)] at hm
  exact one_of hm (by simp [Rows.copiesTopRow])
 obtain ⟨A0, L0, C0, rfl⟩ := okWide_slice Tryz.underlying25 (hval 0 25 v0 rfl rfl)
 have R0 : RdI W W.heap.size A0 L0 C0 := by
  rcases open_ints Tryz.underlying25 Tryz.underlying3 kCellsI hf0 with ⟨hcs, hx⟩ | ⟨a, len', cap', zs, hcs, _, hl, hm, hz, hx, hcell, hwz⟩
  ·simp [Value.cells] at hcs
   obtain ⟨rfl, rfl, rfl⟩ := hcs
   exact ⟨Nat.le_refl _, by simp [maxLen], fun h => absurd h (by omega)⟩
  ·simp [Value.cells] at hcs
   obtain ⟨rfl, rfl, rfl⟩ := hcs
   exact rdI_of hl hm (by simpa using hz) hcell hwz
 obtain ⟨A1, L1, C1, rfl⟩ := okWide_slice Tryz.underlying68 (hval 1 68 v1 rfl rfl)
 obtain ⟨T1, R1, hsz1⟩ := open_tabs hf1
 have SZ1 : ∀ t ∈ T1, SzT t := fun t ht => ⟨(hsz1 t ht).1, by have := (hsz1 t ht).2.1; unfold maxLen at this; omega, fun c hc => ⟨by have := ((hsz1 t ht).2.2 c hc).1; unfold maxLen at this; omega, fun d hd => by have := ((hsz1 t ht).2.2 c hc).2 d hd; unfold maxLen at this; omega⟩⟩
 refine (law36_top T1 (.slice A1 L1 C1) A0 L0 C0 Z2 W SZ1 R1 R0 TABS POW ONE).mono fun e W' ⟨he, hg⟩ => ?_
 subst he
 have hback0 : DataW.Trod enc Tryz.prog W' 0 (fun b => decide (b < W.heap.size)) true 25 (.slice A0 L0 C0) d0 p0 :=
  Below.trod kLaid (by kernel_rfl) (of_decide_eq_true (by kernel_rfl)) h0k hg hlt0
 have hback1 : DataW.Trod enc Tryz.prog W' 0 (fun b => decide (b < W.heap.size)) true 68 (.slice A1 L1 C1) d1 p1 :=
  Below.trod kLaid (by kernel_rfl) (of_decide_eq_true (by kernel_rfl)) h1k hg hlt1
 exact ⟨_, rfl, _, _, _, [], _, [], hW', (trodAll_cons_mk (shut_bool Tryz.underlying4 _) trodAll_mk0), (trodAll_cons_mk hback0 (trodAll_cons_mk hback1 (trodAll_cons_mk (shut_int Tryz.underlying3 w2) trodAll_mk0))), rfl, hg.frame _, fun h => by cases h⟩
theorem jf1 : (Rows.copiesTopRow.inPlace == Tryz.pinned.checked.prog.inPlace 6) = true := by kernel_rfl
theorem jf2 : (Rows.copiesTopRow.unfollowed == Tryz.pinned.checked.prog.unfollowed 6) = true := by kernel_rfl
theorem jf3 : (Rows.copiesTopRow.recurses == Tryz.pinned.checked.prog.recurses 6) = true := by kernel_rfl
theorem jf4 : (Rows.copiesTopRow.named == Tryz.pinned.checked.prog.varsNamed 6) = true := by kernel_rfl
theorem jfc : joinedFacts Tryz.pinned.checked.prog 6 Tryz.f6 Rows.copiesTopSpec Rows.copiesTopRow = true := by
  unfold joinedFacts
  rw [jf1, jf2, jf3, jf4]
  kernel_rfl
theorem jfw : Tryz.f6.isWrapper Tryz.pinned.checked.prog Rows.copiesTopRow.wrapper Rows.copiesTopRow.mainSum := by unfold Func.isWrapper; first | (rw [if_pos (by decide +kernel)]; kernel_rfl) | (rw [if_neg (by decide +kernel)]; exact ⟨rfl, rfl⟩)
theorem said : Rows.CopiesTopSaid :=
  OpenClaim.holds_of_wide 6 Tryz.f6 rfl rfl rfl rfl rfl rfl rfl ⟨rfl, rfl, rfl, rfl, rfl⟩ rfl rfl rfl rfl rfl (by kernel_rfl) Tryz.func6 jfc
    (of_decide_eq_true (by kernel_rfl)) jfw
    (fun os started H enc _ => lifted os started H enc)
theorem proved : Rows.CopiesTopCardSaid :=
  Claim7.holds_tied_plain_at .later [] Rows.copiesTopCard.laidKinds true (true, Rows.copiesTopCard.stood.harness.2) false
    said (fun _ h => by cases h) (by kernel_rfl) (fun _ h => by cases h) copiesTop_row_tie rfl ⟨rfl, rfl⟩ (by kernel_rfl) rfl
    (fun f fn hf hfn => by
      obtain rfl : f = 6 := Option.some.inj ((show Tryz.prog.funcNamed "tablefinder/tablefinderlaw36.CopiesTop" = some 6 by kernel_rfl).symm.trans hf) |>.symm
      obtain rfl : fn = Tryz.f6 := (Option.some.inj (Tryz.func6.symm.trans hfn)).symm
      exact ⟨by kernel_rfl, fun j t ht => by
        rw [Tryz.params6] at ht
        have h3 : t = 25 ∨ t = 68 ∨ t = 3 := by
          rcases j with _ | _ | _ | j
          · left; simpa using ht.symm
          · right; left; simpa using ht.symm
          · right; right; simpa using ht.symm
          · simp at ht
        rcases h3 with rfl | rfl | rfl
        · exact (show Tryz.prog.wantsStandIn 25 = false by kernel_rfl)
        · exact (show Tryz.prog.wantsStandIn 68 = false by kernel_rfl)
        · exact (show Tryz.prog.wantsStandIn 3 = false by kernel_rfl)⟩)
    (by kernel_rfl)
#print axioms proved
end Go.Proofs.YthblaeleogdfpaaGreatDoor
