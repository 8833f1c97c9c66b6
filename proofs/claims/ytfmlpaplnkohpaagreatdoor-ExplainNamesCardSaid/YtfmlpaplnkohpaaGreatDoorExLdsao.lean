/- Contract of explain.distinct. Plain: what explain finds leads there, by no more operations (for ExplainLeads). Plain: what explain finds can be done, and is in normal form (for ExplainShape and ExplainLeads). Plain: the normal form of what explain finds (for ExplainShape). -/
import Derived.Test.YtfmlpaplnkohpaaGreatDoorExLdsaj
import Derived.Test.YtfmlpaplnkohpaaGreatDoorExLdsan
import Derived.Test.YtfmlpaplnkohpaaGreatDoorExLdsah
set_option linter.unusedVariables false
set_option linter.unusedSimpArgs false
namespace Go.Proofs.YtfmlpaplnkohpaaGreatDoor
open Go.RowKit

theorem any_range (out : List Nat) (f : Nat → Bool) : (List.range out.length).any (fun j => f (out.getD j 0)) = out.any f := by
  conv => rhs; rw [← map_range_getD out]
  rw [List.any_map]
  rfl
def opDist0 : Po := ⟨4, 0, ⟨#[]⟩, []⟩
/-- numbers in memory -/
def GotNums (w : World) (L : List Nat) (e : Ending) (w' : World) : Prop := ∃ a c, e = .returned (.slice a L.length c) ∧ Rd w' w'.heap.size (.slice a L.length c) L.length (natF L) ∧ Below w.heap.size w w'

set_option maxRecDepth 100000 in
set_option maxHeartbeats 2000000 in
theorem expl_distinct (o : Po) (hok : o.kind = 4) (id : Int) (nm : ByteArray) (v : Value) (xs : List Co) (n B : Nat) (w : World) (hv : RdCo w (· < B) v xs) (hB : B ≤ w.heap.size) (hc : ∀ x ∈ xs, x.cells.length = n) (hn : rowsC xs = n) (hn4 : n ≤ 4096) (hl : xs.length ≤ 1048576) :
    Calls Tryz.prog 119 #[.agg #[.int .i64 id, .string nm, v]] w (GotNums w (rowsL xs o n)) := by
  obtain ⟨i0, hi0, hz0, hz1, hz2⟩ := info_parts info_int0
  have hkeep := fun W (hW : Below w.heap.size w W) => (hv.keep fun p (hp : p.block < B) => hW.cell (p := p) (by omega) : RdCo W (· < B) v xs)
  have HRW := hid (fun W (hW : Below w.heap.size w W) => table_Rows id nm v xs B W (hkeep W hW) (Nat.le_trans hB hW.size))
  rw [hn] at HRW
  have HCF := hid (fun u q tb ib W (hW : Below w.heap.size w W) (hq : q < n) (ht : BoxN W tb 29 #[.int .i64 id, .string nm, v]) (hib : W.cell? ⟨ib, 0, none⟩ = some (.int .i64 (q : Int))) (hiz : ib < W.heap.size) (hu : IntsAt W W.heap.size u (rowsL xs o q).length (fun j => (((rowsL xs o q).getD j 0 : Nat) : Int))) =>
    has_dist u (rowsL xs o q).length (fun j => (((rowsL xs o q).getD j 0 : Nat) : Int)) (fun j => decide (rowC xs q = rowC xs ((rowsL xs o q).getD j 0))) tb ib W.heap.size W hu (Nat.le_refl _) (fun j hj W' hW' =>
      expl_distinct1 id nm v xs q ((rowsL xs o q).getD j 0) tb ib B W' (hkeep W' (hW.trans (hW'.mono hW.size))) (by have := hW.size; have := hW'.size; omega) (fun x hx => by rw [hc x hx]; exact hq) (fun x hx => by rw [hc x hx]; have := (rowsL_ok xs o q).2 _ (getD_mem hj 0); omega) hl (ht.below hW' ht.lt) ((hW'.cell (p := ⟨ib, 0, none⟩) hiz).trans hib) (Nat.lt_of_lt_of_le hiz hW'.size)))
  have HST := hid (fun q (_ : q < n) => (rowsL_succ xs o q).trans (stepL_D hok (rowsL xs o q) q))
  have HAN := hid (fun q => any_range (rowsL xs o q) (fun k => decide (rowC xs q = rowC xs k)))
  have HLN := hid (fun q => (rowsL_ok xs o q).1)
  have h0 : rowsL xs o 0 = [] := rfl
  generalize rowsL xs o = F at *
  obtain ⟨va, vc, rfl⟩ : ∃ a c, v = .slice a xs.length c := by
    obtain ⟨cv, ⟨a, c, e, -⟩, -⟩ := hv
    exact ⟨a, c, e⟩
  clear hv hkeep hc hn
  generalize xs.length = L at *
  have HX0 := hid (BoxN.new w #[.int .i64 id, .string nm, .slice va L vc] 29)
  have HB0 := hid ((Below.refl w.heap.size w).alloc (Nat.le_refl _) (.cells #[.int .i64 id, .string nm, .slice va L vc] 29))
  have x0 := HX0.out.cell 0 rfl
  have x1 := HX0.out.cell 1 rfl
  have x2 := HX0.out.cell 2 rfl
  have hz0' : (w.alloc (.cells #[.int .i64 id, .string nm, .slice va L vc] 29)).heap.size = w.heap.size + 1 := by simp
  go_enter Tryz.func119, Tryz.ntmps119
  generalize hLA : Code.loop _ = LA
  go_wp2_with fail
  with_reducible refine (HRW.out _ HB0.out).mono ?_
  generalize w.alloc (.cells #[.int .i64 id, .string nm, .slice va L vc] 29) = W0 at *
  rintro e w1 ⟨rfl, hb1⟩
  have HB1 := hid (HB0.out.trans (hb1.mono (by omega)))
  have HX1 := hid (HX0.out.below hb1 HX0.out.lt)
  have hz1' := hb1.size
  clear x0 x1 x2 hb1 HRW HX0
  go_wp2_with fail
  subst hLA
  go_loopg [3, 7] n (fun N y s wr => ∃ q : Nat, s = .int .i64 (q : Int) ∧ q + N = n ∧ Hid (Below w1.heap.size w1 wr) ∧ w1.heap.size ≤ wr.heap.size ∧ Hid (wr.ownsRow w1.heap.size 3 1 y (F q).length (iv (F q))))
  case atStart => exact ⟨0, rfl, by omega, hid (Below.refl _ _), Nat.le_refl _, hid (by rw [h0]; exact World.ownsRow_nil _ _ _ _)⟩
  case round =>
    obtain ⟨q, rfl, hq, HB, hlo, HO⟩ := hrel
    obtain ⟨ya, yc, rfl⟩ := own_slice HO.out
    by_cases hp : 0 < gk
    · have hqn : q < n := by omega
      have hXr := HX1.out.below HB.out HX1.out.lt
      have HXr := hid (hXr.alloc (.cells #[.int .i64 (q : Int)] 3))
      have HIr := hid (BoxN.new wr #[.int .i64 (q : Int)] 3)
      have hi1 := HIr.out.cell 0 rfl
      have HBr := hid (HB.out.alloc hlo (.cells #[.int .i64 (q : Int)] 3))
      have HOr := hid (HO.out.alloc (.cells #[.int .i64 (q : Int)] 3))
      have HRr := hid (show IntsAt (wr.alloc (.cells #[.int .i64 (q : Int)] 3)) (wr.alloc (.cells #[.int .i64 (q : Int)] 3)).heap.size (.slice ya (F q).length yc) (F q).length (fun j => (((F q).getD j 0 : Nat) : Int)) from inK_of_rd (rd_of_owns HOr.out (natF (F q)) (fun i hi => iv_at hi)))
      have hzr : (wr.alloc (.cells #[.int .i64 (q : Int)] 3)).heap.size = wr.heap.size + 1 := by simp
      have HCQ := hid (HCF.out (.slice ya (F q).length yc) q w.heap.size wr.heap.size _ (HB1.out.trans (HBr.out.mono (by omega))) hqn HXr.out hi1 (by omega) HRr.out)
      have HSTq := hid (HST.out q hqn)
      have hln := HLN.out q
      rw [HAN.out q] at HCQ
      clear hXr
      generalize hFq : F q = X at *
      have HFQ := hid hFq
      clear hFq
      generalize X.any (fun k => decide (rowC xs q = rowC xs k)) = hb at *
      generalize hxl : X.length = m at *
      have HXL := hid hxl
      clear hxl
      go_wp2_with fail
      with_reducible refine HCQ.out.mono ?_
      generalize wr.alloc (.cells #[.int .i64 (q : Int)] 3) = W2 at *
      rintro e w3 ⟨rfl, hb3⟩
      have HB3 := hid (HBr.out.trans (hb3.mono (by omega)))
      have HO3 := hid (own_later HOr.out hb3)
      have hz3 := hb3.size
      have i3 := (HIr.out.below hb3 HIr.out.lt).cell 0 rfl
      clear hi1 hb3
      cases hbb : hb with
      | true =>
        subst hbb
        go_wp2
        go_roundg (gk - 1)
        case rel =>
          refine ⟨q + 1, by go_num, by omega, HB3, by omega, hid ?_⟩
          rw [HSTq.out, if_pos (by trivial)]
          rw [HXL.out]
          exact HO3.out
        case measure => omega
      | false =>
        subst hbb
        have HO4 := hid (HO3.out.alloc (.cells #[.int .i64 (q : Int)] 3))
        have HN4 := hid (BoxN.new w3 #[.int .i64 (q : Int)] 3)
        have HB4 := hid (HB3.out.alloc (by omega) (.cells #[.int .i64 (q : Int)] 3))
        go_wp2_with (at_builtin; refine wpList_append_form _ rfl _ _ 22 22 rfl w1.heap.size 3 3 i0 (.int .i64 0) 1 8 Tryz.underlying22 Tryz.underlying22 hi0 hz0 hz1 hz2 rfl (by decide) (.slice ya m yc) m _ rfl HO4.out (some ⟨_, 0, none⟩) 1 1 [.int .i64 (q : Int)] rfl rfl (fun _ => ⟨_, rfl, World.news_of_block HN4.out⟩) (by intro u hu; simp at hu; subst hu; rfl) (by omega) (by unfold maxLen; omega) (by omega) (by simp; omega) ?_; intro p8 cap8 w8 hown8 hg8 hat8 hlt8; have HG8 := hid hg8; have HOWN8 := hid hown8; clear hown8 hg8 hat8)
        clear i3
        go_wp2
        go_roundg (gk - 1)
        case rel =>
          have hgs := HG8.out.size
          refine ⟨q + 1, by go_num, by omega, hid (HB4.out.grown HG8.out (by simp; omega) (fun k hk => (HO3.out.lt k hk).1)), by simp at hgs; omega, hid ?_⟩
          rw [HSTq.out, if_neg (by simp)]
          rw [List.length_append, List.length_singleton, HXL.out]
          have e1 : iv (X ++ [q]) = iv X ++ [.int .i64 (q : Int)] := by simp [iv]
          rw [e1]
          exact HOWN8.out
        case measure => omega
    · obtain rfl : gk = 0 := by omega
      obtain rfl : q = n := by omega
      go_wp2
      go_ret
      exact ⟨_, _, rfl, rd_of_owns HO.out (natF (F q)) (fun i hi => iv_at hi), HB1.out.trans (HB.out.mono (by omega))⟩
end Go.Proofs.YtfmlpaplnkohpaaGreatDoor

namespace Go.Proofs.YtfmlpaplnkohpaaGreatDoor
open Go.RowKit

theorem names_sel (xs : List Co) (rs : List Nat) : namesL (selL xs rs) = namesL xs := by simp [namesL, selL, pickC, Function.comp_def]
theorem names_do {xs : List Co} {o : Po} (hk : o.kind ≠ 3) : namesL (doL xs o) = namesL xs := by rw [doL_rows hk, names_sel]
theorem names_run : ∀ {os : List Po} {xs : List Co}, (∀ o ∈ os, o.kind ≠ 3) → namesL (runL xs os) = namesL xs
  | [], _, _ => rfl
  | o :: os, xs, h => by
    show namesL (runL (doL xs o) os) = _
    rw [names_run fun p hp => h p (by simp [hp]), names_do (h o (by simp))]
theorem names_len {xs ys : List Co} (h : namesL xs = namesL ys) : xs.length = ys.length := by simpa [namesL] using congrArg List.length h
theorem filters_kind {a : List Co} {f : List Po} (h : f ∈ filtersL a) : ∀ o ∈ f, o.kind = 1 ∨ o.kind = 2 := by
  intro o ho
  rcases List.mem_cons.1 h with rfl | h
  · cases ho
  · obtain ⟨k, -, h⟩ := List.mem_flatMap.1 h
    rcases List.mem_cons.1 h with rfl | h
    · rw [List.mem_singleton.1 ho]; right; rfl
    · obtain ⟨s, -, rfl⟩ := List.mem_map.1 h
      rw [List.mem_singleton.1 ho]; left; rfl
theorem sorts_kind {n : Nat} {e : List Po} (h : e ∈ sortsL n) : ∀ o ∈ e, o.kind = 5 := by
  intro o ho
  rcases List.mem_cons.1 h with rfl | h
  · cases ho
  · obtain ⟨k, -, rfl⟩ := List.mem_map.1 h
    rw [List.mem_singleton.1 ho]; rfl
theorem ends_kind {n : Nat} {e : List Po} (h : e ∈ endsL n) : ∀ o ∈ e, o.kind = 4 ∨ o.kind = 5 := by
  intro o ho
  rcases List.mem_append.1 h with h | h
  · exact .inr (sorts_kind h o ho)
  · obtain ⟨e', he, rfl⟩ := List.mem_map.1 h
    rcases List.mem_cons.1 ho with rfl | ho
    · left; rfl
    · exact .inr (sorts_kind he o ho)
theorem rows_do {xs : List Co} {o : Po} (hk : o.kind ≠ 3) : rowsC (doL xs o) ≤ rowsC xs := by
  rw [doL_rows hk]
  rcases Nat.eq_zero_or_pos xs.length with h | h
  · have e : xs = [] := List.eq_nil_of_length_eq_zero h
    subst e
    simp [selL]
  · rw [rowsC_sel h]
    exact (rowsL_ok xs o _).1
theorem rows_run : ∀ {os : List Po} {xs : List Co}, (∀ o ∈ os, o.kind ≠ 3) → rowsC (runL xs os) ≤ rowsC xs
  | [], _, _ => Nat.le_refl _
  | o :: os, xs, h => by
    show rowsC (runL (doL xs o) os) ≤ _
    exact Nat.le_trans (rows_run fun p hp => h p (by simp [hp])) (rows_do (h o (by simp)))
theorem fromL_names (a b : List Co) : fromL a b = (namesL b).map (idxN a) := by simp [fromL, namesL, Function.comp_def]
theorem name_at {xs ys : List Co} (h : namesL xs = namesL ys) (k : Nat) : (xs.getD k Co.z).name = (ys.getD k Co.z).name := by rw [← namesL_getD, ← namesL_getD, h]
theorem all_there {a b : List Co} (h : ∀ s ∈ namesL b, s ∈ namesL a) : b.all (fun c => (namesL a).any fun s => decide (s = c.name)) = true :=
  List.all_eq_true.2 fun c hc => List.any_eq_true.2 ⟨c.name, h _ (List.mem_map_of_mem hc), by simp⟩
theorem proj_none {a b : List Co} (hn : (namesL a).Nodup) (h : namesL b = namesL a) : projOf a b = some [] := by
  unfold projOf
  rw [if_pos (all_there fun s hs => by rw [← h]; exact hs), if_pos]
  have hl := names_len h
  refine ⟨hl.symm, ?_⟩
  rw [fromL_names, h, hl]
  refine List.ext_getElem (by simp [namesL]) fun i h1 h2 => ?_
  have hi : i < a.length := by simpa using h2
  have e : (namesL a)[i]'(by simpa [namesL] using hi) = (a.getD i Co.z).name := by simp [namesL, List.getD, hi]
  simp only [List.getElem_map, List.getElem_range]
  rw [e]
  exact idxN_at hn hi
theorem proj_some {a b : List Co} {ks : List Nat} (hn : (namesL a).Nodup) (hk : ∀ k ∈ ks, k < a.length) (h : namesL b = ks.map fun k => (a.getD k Co.z).name) (hne : ¬ (a.length = ks.length ∧ ks = List.range ks.length)) : projOf a b = some [opProj ks] := by
  have hf : fromL a b = ks := by
    rw [fromL_names, h, List.map_map]
    refine (List.map_congr_left (g := id) fun k hkk => ?_).trans (by simp)
    exact idxN_at hn (hk k hkk)
  have hl : b.length = ks.length := by simpa [namesL] using congrArg List.length h
  unfold projOf
  rw [if_pos (all_there fun s hs => ?_), if_neg, hf]
  · rw [hf, hl]; exact hne
  · rw [h] at hs
    obtain ⟨k, hkk, rfl⟩ := List.mem_map.1 hs
    exact name_mem (hk k hkk)
/-- what was made in the normal form is found, by no more operations -/
theorem leads_none {a : List Co} {f e : List Po} (hn : (namesL a).Nodup) (hf : f ∈ filtersL a) (he : e ∈ endsL a.length) (hl : (f ++ e).length ≤ 4) :
    ∃ l, findL a (runL a (f ++ e)) = some l ∧ l.length ≤ (f ++ e).length ∧ runL a l = runL a (f ++ e) := by
  have hfk := filters_kind hf
  have hek := ends_kind he
  have h1 : namesL (runL a (f ++ e)) = namesL a := names_run fun o ho => by
    rcases List.mem_append.1 ho with h | h
    · have := hfk o h; omega
    · have := hek o h; omega
  have hlen := names_len h1
  have h2 := find_done (a := a) (b := runL a (f ++ e)) (p := []) hf (proj_none hn h1) (by rw [hlen]; exact he) (by rw [List.append_nil]) (by rw [List.append_nil]; exact hl) (by
    rw [List.append_nil, runL_append]
    exact rows_run fun o ho => by have := hek o ho; omega)
  rw [List.append_nil] at h2
  obtain ⟨l, h3, h4⟩ := h2
  obtain ⟨-, -, -, -, -, -, -, -, h5⟩ := find_shape h3
  exact ⟨l, h3, h4, h5⟩
theorem leads_some {a : List Co} {f e : List Po} {ks : List Nat} (hn : (namesL a).Nodup) (hf : f ∈ filtersL a) (hk : ∀ k ∈ ks, k < a.length) (hne : ¬ (a.length = ks.length ∧ ks = List.range ks.length)) (he : e ∈ endsL ks.length) (hl : (f ++ [opProj ks] ++ e).length ≤ 4) :
    ∃ l, findL a (runL a (f ++ [opProj ks] ++ e)) = some l ∧ l.length ≤ (f ++ [opProj ks] ++ e).length ∧ runL a l = runL a (f ++ [opProj ks] ++ e) := by
  have hfk := filters_kind hf
  have hek := ends_kind he
  have h0 : namesL (runL a f) = namesL a := names_run fun o ho => by have := hfk o ho; omega
  have hp : runL a (f ++ [opProj ks]) = projL (runL a f) (ks.map fun (k : Nat) => (k : Int)) := by
    rw [runL_append]
    rfl
  have h1 : namesL (runL a (f ++ [opProj ks])) = ks.map fun k => (a.getD k Co.z).name := by
    rw [hp]
    simp only [namesL, projL, List.map_map]
    refine List.map_congr_left fun k _ => ?_
    exact name_at h0 k
  have h2 : namesL (runL a (f ++ [opProj ks] ++ e)) = ks.map fun k => (a.getD k Co.z).name := by
    rw [runL_append, names_run (fun o ho => by have := hek o ho; omega), h1]
  have hlen : (runL a (f ++ [opProj ks] ++ e)).length = ks.length := by simpa [namesL] using congrArg List.length h2
  obtain ⟨l, h3, h4⟩ := find_done (a := a) (b := runL a (f ++ [opProj ks] ++ e)) (p := [opProj ks]) hf (proj_some hn hk h2 hne) (by rw [hlen]; exact he) rfl hl (by
    rw [runL_append a (f ++ [opProj ks]) e]
    exact rows_run fun o ho => by have := hek o ho; omega)
  obtain ⟨-, -, -, -, -, -, -, -, h5⟩ := find_shape h3
  exact ⟨l, h3, h4, h5⟩
/-- a table leads to itself by nothing -/
theorem leads_self {a : List Co} (hn : (namesL a).Nodup) : findL a a = some [] := by
  have h := leads_none (a := a) (f := []) (e := []) hn (by simp [filtersL]) (by simp [endsL, sortsL]) (by simp)
  obtain ⟨l, h1, h2, -⟩ := h
  have e : l = [] := List.eq_nil_of_length_eq_zero (by simpa using h2)
  rw [e] at h1
  exact h1
end Go.Proofs.YtfmlpaplnkohpaaGreatDoor

namespace Go.Proofs.YtfmlpaplnkohpaaGreatDoor
open Go.RowKit

/-- operations that can be done one after another -/
def canRun : List Co → List Po → Bool
  | _, [] => true
  | xs, o :: os => canL xs.length o && canRun (doL xs o) os
theorem canRun_append : ∀ (a : List Po) (xs : List Co) (b : List Po), canRun xs (a ++ b) = (canRun xs a && canRun (runL xs a) b)
  | [], _, _ => by simp [canRun, runL]
  | o :: a, xs, b => by
    show (canL xs.length o && canRun (doL xs o) (a ++ b)) = _
    rw [canRun_append a]
    simp [canRun, runL, Bool.and_assoc]
theorem there_of {n k : Nat} (h : k < n) : thereL n (k : Int) = true := by
  unfold thereL
  simp
  omega
theorem can_eq {n k : Nat} {s : ByteArray} (h : k < n) (hs : s.size ≤ 1024) : canL n (opEq k s) = true := by
  unfold canL opEq
  rw [if_pos rfl, there_of h]
  simp [hs]
theorem can_full {n k : Nat} (h : k < n) : canL n (opFull k) = true := by
  unfold canL opFull
  rw [if_neg (show ¬ ((2 : Int) = 1) by decide), if_pos (.inl rfl), there_of h]
  rfl
theorem can_sort {n k : Nat} (h : k < n) : canL n (opSort k) = true := by
  unfold canL opSort
  rw [if_neg (show ¬ ((5 : Int) = 1) by decide), if_pos (.inr rfl), there_of h]
  rfl
theorem can_dist (n : Nat) : canL n opDist = true := by
  unfold canL opDist
  rw [if_neg (by decide), if_neg (by decide), if_neg (by decide)]
  rfl
theorem can_proj {n : Nat} {ks : List Nat} (h : ∀ k ∈ ks, k < n) (hl : ks.length ≤ 64) : canL n (opProj ks) = true := by
  unfold canL opProj
  rw [if_neg (show ¬ ((3 : Int) = 1) by decide), if_neg (show ¬ ((3 : Int) = 2 ∨ (3 : Int) = 5) by decide), if_pos rfl]
  have h1 : (ks.map fun (k : Nat) => (k : Int)).all (thereL n) = true := List.all_eq_true.2 fun x hx => by
    obtain ⟨k, hk, rfl⟩ := List.mem_map.1 hx
    exact there_of (h k hk)
  have h2 : decide (ks.length ≤ 64) = true := decide_eq_true hl
  rw [h1]
  show (true && (true && true && decide ((ks.map fun (k : Nat) => (k : Int)).length ≤ 64))) = true
  rw [List.length_map, h2]
  rfl
theorem has_small {xs : List Co} {n k : Nat} (h : ColsV xs n) (hk : k < xs.length) {s : ByteArray} (hs : s ∈ hasC (xs.getD k Co.z)) : s.size ≤ 1024 := by
  have h1 := setOfL_mem _ _ hs
  obtain ⟨c, hc, rfl⟩ := List.mem_map.1 h1
  have h2 := ((h _ (getD_mem hk Co.z)).2.2 c (List.mem_filter.1 hc).1).2.1
  omega
theorem can_filters {xs : List Co} {n : Nat} {f : List Po} (h : ColsV xs n) (hf : f ∈ filtersL xs) : canRun xs f = true := by
  rcases List.mem_cons.1 hf with rfl | hf
  · rfl
  · obtain ⟨k, hk, hf⟩ := List.mem_flatMap.1 hf
    have hk' := List.mem_range.1 hk
    rcases List.mem_cons.1 hf with rfl | hf
    · simp [canRun, can_full hk']
    · obtain ⟨s, hs, rfl⟩ := List.mem_map.1 hf
      simp [canRun, can_eq hk' (has_small h hk' hs)]
theorem can_sorts {xs : List Co} {e : List Po} (he : e ∈ sortsL xs.length) : canRun xs e = true := by
  rcases List.mem_cons.1 he with rfl | he
  · rfl
  · obtain ⟨k, hk, rfl⟩ := List.mem_map.1 he
    simp [canRun, can_sort (List.mem_range.1 hk)]
theorem can_ends {xs : List Co} {e : List Po} (he : e ∈ endsL xs.length) : canRun xs e = true := by
  rcases List.mem_append.1 he with he | he
  · exact can_sorts he
  · obtain ⟨e', h1, rfl⟩ := List.mem_map.1 he
    have h2 : (doL xs opDist).length = xs.length := names_len (names_do (by decide))
    rw [← h2] at h1
    show (canL xs.length opDist && canRun (doL xs opDist) e') = true
    rw [can_dist, can_sorts h1]
    rfl
/-- the project step -/
theorem proj_form {a b : List Co} {p : List Po} (h : projOf a b = some p) : (∀ c ∈ b, c.name ∈ namesL a) ∧ (p = [] ∧ a.length = b.length ∨ p = [opProj (fromL a b)]) := by
  unfold projOf at h
  split at h
  · rename_i hall
    refine ⟨fun c hc => ?_, ?_⟩
    · obtain ⟨s, hs, he⟩ := List.any_eq_true.1 (List.all_eq_true.1 hall c hc)
      rw [← of_decide_eq_true he]; exact hs
    · split at h
      · rename_i hc
        exact .inl ⟨(Option.some.inj h).symm, hc.1⟩
      · exact .inr (Option.some.inj h).symm
  · cases h
theorem from_lt {a b : List Co} (h : ∀ c ∈ b, c.name ∈ namesL a) : ∀ k ∈ fromL a b, k < a.length := fun k hk => by
  obtain ⟨c, hc, rfl⟩ := List.mem_map.1 hk
  exact idxN_lt (h c hc)
theorem can_found {a b : List Co} {n : Nat} {l : List Po} (hv : ColsV a n) (hb : b.length ≤ 64) (h : findL a b = some l) : canRun a l = true := by
  obtain ⟨f, p, e, hf, hp, he, rfl, -, -⟩ := find_shape h
  have hfl : (runL a f).length = a.length := names_len (names_run fun o ho => by have := filters_kind hf o ho; omega)
  obtain ⟨h1, h2⟩ := proj_form hp
  rw [canRun_append, canRun_append, can_filters hv hf]
  rcases h2 with ⟨rfl, h2⟩ | rfl
  · have e1 : (runL a (f ++ [])).length = b.length := by rw [List.append_nil, hfl, h2]
    have e2 := can_ends (xs := runL a (f ++ [])) (e := e) (by rw [e1]; exact he)
    rw [e2]
    rfl
  · have e1 : (runL a (f ++ [opProj (fromL a b)])).length = b.length := by
      rw [runL_append]
      show (projL (runL a f) _).length = _
      simp [projL, fromL, opProj]
    have e3 := can_ends (xs := runL a (f ++ [opProj (fromL a b)])) (e := e) (by rw [e1]; exact he)
    rw [e3]
    have e2 : canL (runL a f).length (opProj (fromL a b)) = true := can_proj (fun k hk => by rw [hfl]; exact from_lt h1 k hk) (by simpa [fromL] using hb)
    simp [canRun, e2]
end Go.Proofs.YtfmlpaplnkohpaaGreatDoor

namespace Go.Proofs.YtfmlpaplnkohpaaGreatDoor
open Go.RowKit

def rankP (k : Int) : Nat := if k = 1 ∨ k = 2 then 1 else if k = 3 then 2 else if k = 4 then 3 else if k = 5 then 4 else 0
theorem filters_form {a : List Co} {f : List Po} (h : f ∈ filtersL a) : f = [] ∨ ∃ o, f = [o] ∧ rankP o.kind = 1 := by
  rcases List.mem_cons.1 h with rfl | h
  · exact .inl rfl
  · obtain ⟨k, -, h⟩ := List.mem_flatMap.1 h
    rcases List.mem_cons.1 h with rfl | h
    · exact .inr ⟨_, rfl, rfl⟩
    · obtain ⟨s, -, rfl⟩ := List.mem_map.1 h
      exact .inr ⟨_, rfl, rfl⟩
theorem sorts_form {n : Nat} {e : List Po} (h : e ∈ sortsL n) : e = [] ∨ ∃ k, k < n ∧ e = [opSort k] := by
  rcases List.mem_cons.1 h with rfl | h
  · exact .inl rfl
  · obtain ⟨k, hk, rfl⟩ := List.mem_map.1 h
    exact .inr ⟨k, List.mem_range.1 hk, rfl⟩
theorem ends_form {n : Nat} {e : List Po} (h : e ∈ endsL n) : e = [] ∨ (∃ k, k < n ∧ e = [opSort k]) ∨ e = [opDist] ∨ ∃ k, k < n ∧ e = [opDist, opSort k] := by
  rcases List.mem_append.1 h with h | h
  · rcases sorts_form h with h | h
    · exact .inl h
    · exact .inr (.inl h)
  · obtain ⟨e', h1, rfl⟩ := List.mem_map.1 h
    rcases sorts_form h1 with rfl | ⟨k, hk, rfl⟩
    · exact .inr (.inr (.inl rfl))
    · exact .inr (.inr (.inr ⟨k, hk, rfl⟩))
theorem shape_rank {a b : List Co} {l : List Po} (h : findL a b = some l) : (l.map fun o => rankP o.kind).Pairwise (· < ·) ∧ ∀ o ∈ l, 0 < rankP o.kind := by
  obtain ⟨f, p, e, hf, hp, he, rfl, -, -⟩ := find_shape h
  have r3 : rankP (opProj (fromL a b)).kind = 2 := rfl
  have r4 : rankP opDist.kind = 3 := rfl
  have r5 : ∀ k, rankP (opSort k).kind = 4 := fun k => rfl
  rcases filters_form hf with rfl | ⟨o, rfl, r1⟩ <;> rcases (proj_form hp).2 with ⟨rfl, -⟩ | rfl <;> rcases ends_form he with rfl | ⟨k, -, rfl⟩ | rfl | ⟨k, -, rfl⟩ <;> simp_all
theorem idxP_before : ∀ {l : List ByteArray} {s : ByteArray} {j : Nat}, j < idxP l s → l.getD j ⟨#[]⟩ ≠ s
  | [], _, _, h => by simp [idxP] at h
  | x :: l, s, j, h => by
    unfold idxP at h
    by_cases e : x = s
    · rw [if_pos e] at h; omega
    · rw [if_neg e] at h
      rcases j with _ | j
      · exact e
      · rw [List.getD_cons_succ]
        exact idxP_before (by omega)
/-- the first column with the name -/
theorem from_first {a b : List Co} (h : ∀ c ∈ b, c.name ∈ namesL a) {i : Nat} (hi : i < b.length) :
    (a.getD ((fromL a b).getD i 0) Co.z).name = (b.getD i Co.z).name ∧ ∀ j, j < (fromL a b).getD i 0 → (a.getD j Co.z).name ≠ (b.getD i Co.z).name := by
  have e : (fromL a b).getD i 0 = idxN a (b.getD i Co.z).name := by simp [fromL, List.getD, hi]
  have hm := h _ (getD_mem hi Co.z)
  rw [e]
  refine ⟨idxN_name hm, fun j hj => ?_⟩
  rw [← namesL_getD]
  exact idxP_before hj
end Go.Proofs.YtfmlpaplnkohpaaGreatDoor
