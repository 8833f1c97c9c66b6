/- The walk of LineageNearest. -/
import Derived.Deep.Cut
import Derived.Test.YtaajpliifdlokaaGreatDoorLnNrbr
import Derived.Test.YtaajpliifdlokaaGreatDoorLnNrbu
set_option linter.unusedVariables false
set_option linter.unusedSimpArgs false
namespace Go.Proofs.YtaajpliifdlokaaGreatDoor
open Go.RowKit
def FindN (w : World) (e : Ending) (w' : World) : Prop :=
  e = .returned (.tuple #[.agg #[.int .i64 0, .string ⟨#[]⟩, .slice none 0 0], .bool false]) ∧ Below w.heap.size w w'
set_option maxRecDepth 100000 in
set_option maxHeartbeats 1000000 in
theorem ref_FindN (v : Value) (ts : List Ta) (B : Nat) (id : Int) (w : World) (hu : ∀ j, j < ts.length → (ts.getD j Ta.z).id ≠ id) (hp : 0 < ts.length) (hl : ts.length ≤ 1048576) (hv : RdTa w (· < B) v ts) (hB : B ≤ w.heap.size) :
  Calls Tryz.prog 32 #[v, .int .i64 id] w (FindN w) := by
 obtain ⟨tv, htv, hco⟩ := hv
 obtain ⟨a, k, rfl, hk, hm, hrd⟩ := htv
 obtain ⟨b, o, rfl, hb, hcell⟩ := hrd hp
 have hbw : b < w.heap.size := by omega
 have HRD := hid hcell
 have HSL : Hid (∀ q, q < ts.length → ∃ ca m ck, tv q = .slice ca m ck) := hid (fun q hq => by
  obtain ⟨cv, ⟨ca, ck, e, -⟩, -⟩ := hco q hq
  exact ⟨ca, _, ck, e⟩)
 have HU := hid hu
 clear hcell hco hu hrd
 generalize hxl : ts.length = L at *
 clear hxl
 unfold maxLen at hm
 go_enter Tryz.func32, Tryz.ntmps32
 generalize hLA : Code.loop _ = LA
 go_wp2_with fail
 have HX0 := hid (BoxN.new w #[.int .i64 0, .string ⟨#[]⟩, .slice none 0 0] 51)
 have HB0 := hid ((Below.refl w.heap.size w).alloc (Nat.le_refl _) (.cells #[.int .i64 0, .string ⟨#[]⟩, .slice none 0 0] 51))
 have hz0 : (w.alloc (.cells #[.int .i64 0, .string ⟨#[]⟩, .slice none 0 0] 51)).heap.size = w.heap.size + 1 := by simp
 generalize w.alloc (.cells #[.int .i64 0, .string ⟨#[]⟩, .slice none 0 0] 51) = W0 at *
 subst hLA
 go_loopg [10] L (fun N c wr => ∃ q : Nat, q + N = L ∧ c = .int .i64 (q : Int) ∧ Hid (Below W0.heap.size W0 wr))
 case atStart => exact ⟨0, by omega, rfl, hid (Below.refl _ _)⟩
 case round =>
  obtain ⟨q, hq, rfl, HB⟩ := hrel
  have hwz := HB.out.size
  have HBW := hid (HB0.out.trans (HB.out.mono (by omega)))
  by_cases hgp : 0 < gk
  ·have hqL : q < L := by omega
   have hqi : (q : Int) < (L : Int) := by omega
   have k0 : wr.cell? ⟨b, o + q * 3, none⟩ = some (.int .i64 (ts.getD q Ta.z).id) := (HBW.out.cell (p := ⟨b, o + q * 3, none⟩) hbw).trans (HRD.out q (by omega) 0 (by omega))
   have k1 : wr.cell? ⟨b, o + q * 3 + 1, none⟩ = some (.string (ts.getD q Ta.z).name) := (HBW.out.cell (p := ⟨b, o + q * 3 + 1, none⟩) hbw).trans (HRD.out q (by omega) 1 (by omega))
   have k2 : wr.cell? ⟨b, o + q * 3 + 2, none⟩ = some (tv q) := (HBW.out.cell (p := ⟨b, o + q * 3 + 2, none⟩) hbw).trans (HRD.out q (by omega) 2 (by omega))
   have hne := HU.out q (by omega)
   obtain ⟨ca', m', ck', hcq'⟩ := HSL.out q (by omega)
   rw [hcq'] at k2
   have hne2 : ((ts.getD q Ta.z).id == id) = false := by simpa using hne
   generalize ts.getD q Ta.z = t' at *
   obtain ⟨id', nm', xs'⟩ := t'
   simp only at k0 k1 hne2
   clear hne
   go_wp2
   go_roundg (gk - 1)
   case rel => exact ⟨q + 1, by omega, by go_num, hid (by have := HB.out; repeat' (first | (with_reducible exact Below.refl _ _) | (with_reducible assumption) | (with_reducible refine below_drewN ?_) | (with_reducible refine Below.alloc ?_ ?_ _) | (with_reducible refine Below.drew ?_) | (with_reducible refine Below.setCell ?_ ?_ _) | (with_reducible refine Below.trans ?_ (Below.mono (by with_reducible assumption) ?_)) | go_size))⟩
   case measure => omega
  ·obtain rfl : gk = 0 := by omega
   obtain rfl : q = L := by omega
   have hb0 := HX0.out.below HB.out (by omega)
   have c0 := hb0.cell 0 rfl
   have c1 := hb0.cell 1 rfl
   have c2 := hb0.cell 2 rfl
   have f0 := hb0.frozen 0
   have f1 := hb0.frozen 1
   have f2 := hb0.frozen 2
   have hxz := hb0.lt
   have hbF := ((hb0.set 0 (.int .i64 0)).set 1 (.string ⟨#[]⟩)).set 2 (.slice none 0 0)
   have d0 := hbF.cell 0 rfl
   have d1 := hbF.cell 1 rfl
   have d2 := hbF.cell 2 rfl
   have D0 := hid d0
   have D1 := hid d1
   have D2 := hid d2
   clear hb0 hbF d0 d1 d2
   go_wp2
   have d0 := D0.out
   have d1 := D1.out
   have d2 := D2.out
   refine bodyPost_ret (v := .tuple #[.agg #[.int .i64 0, .string ⟨#[]⟩, .slice none 0 0], .bool false]) (by simp [results, Tryz.results32, go_sem, d0, d1, d2]) rfl ⟨rfl, ?_⟩
   have := HBW.out
   repeat' (first | (with_reducible exact Below.refl _ _) | (with_reducible assumption) | (with_reducible refine below_drewN ?_) | (with_reducible refine Below.alloc ?_ ?_ _) | (with_reducible refine Below.drew ?_) | (with_reducible refine Below.setCell ?_ ?_ _) | (with_reducible refine Below.trans ?_ (Below.mono (by with_reducible assumption) ?_)) | go_size)
def LastL (xs : List Lk) (q : Nat) (id : Int) (x : Lk) : Prop := (x = Lk.z ∧ ∀ j, j < q → (xs.getD j Lk.z).dst ≠ id) ∨ (∃ j, j < q ∧ x = xs.getD j Lk.z ∧ (xs.getD j Lk.z).dst = id)
theorem last_near {ts : List Ta} (hp : ts.Pairwise fun a b => a.id < b.id) (h1 : ∀ t ∈ ts, 0 < t.id) {b : Ta} {x : Lk} (hb : b ∈ ts) (h : LastL (linksL ts) (linksL ts).length b.id x) :
    (x = Lk.z ∧ (∀ t ∈ ts, t.id ≠ x.src) ∧ ∀ a ∈ ts, grT a b = true → findL a.cols b.cols = none) ∨
    (x.dst = b.id ∧ ∃ a0 ∈ ts, a0.id = x.src ∧ ∀ a ∈ ts, grT a b = true → ∀ ops, findL a.cols b.cols = some ops → ¬ (ops.length < x.ops.length ∨ (ops.length = x.ops.length ∧ (cellsT a < cellsT a0 ∨ (cellsT a = cellsT a0 ∧ a0.id < a.id))))) := by
  rcases h with ⟨rfl, hno⟩ | ⟨j, hj, rfl, hd⟩
  · refine .inl ⟨rfl, fun t ht => by have := h1 t ht; simp only [Lk.z]; omega, fun a ha hg => ?_⟩
    rcases hf : findL a.cols b.cols with _ | ops
    · rfl
    · exfalso
      obtain ⟨x, a0, hl, -, -, hdst, -⟩ := link_nearest ha hg hf
      have hm : x ∈ linksL ts := List.mem_filterMap.2 ⟨b, hb, hl⟩
      obtain ⟨i, hi, e⟩ := List.getElem_of_mem hm
      refine hno i hi ?_
      simp only [List.getD, hi, List.getElem?_eq_getElem, Option.getD_some, e]
      exact hdst
  · refine .inr ⟨hd, ?_⟩
    have hm : (linksL ts).getD j Lk.z ∈ linksL ts := getD_mem hj Lk.z
    generalize (linksL ts).getD j Lk.z = x at *
    obtain ⟨b', hb', hl'⟩ := List.mem_filterMap.1 hm
    obtain ⟨a1, ha1, e1, e2, -, -, -⟩ := link_spec hl'
    obtain rfl : b' = b := id_inj hp hb' hb (by rw [e2, hd])
    refine ⟨a1, ha1, e1, fun a ha hg ops hf => ?_⟩
    obtain ⟨x', a0, hl, ha0, es, -, hno⟩ := link_nearest ha hg hf
    rw [hl'] at hl
    obtain rfl := Option.some.inj hl
    obtain rfl : a1 = a0 := id_inj hp ha1 ha0 (by rw [e1, es])
    exact hno
end Go.Proofs.YtaajpliifdlokaaGreatDoor
