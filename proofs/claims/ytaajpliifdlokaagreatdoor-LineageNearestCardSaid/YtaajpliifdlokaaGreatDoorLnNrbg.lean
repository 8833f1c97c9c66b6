/- Contracts of slices.Index and slices.Contains at numbers, and of lineage.Ancestors. Contract of lineage.Roots. Plain: chapter 39's example. Contract of law39's ints at equal lists. -/
import Derived.Deep.Cut
import Derived.Test.YtaajpliifdlokaaGreatDoorLnNrbd
import Derived.Test.YtaajpliifdlokaaGreatDoorLnNrbf
import Derived.Shelf.SortM.SortNone
import Derived.Sort.OwnSortedInts
import Derived.Test.YtaajpliifdlokaaGreatDoorLnNrad
set_option linter.unusedVariables false
set_option linter.unusedSimpArgs false
namespace Go.Proofs.YtaajpliifdlokaaGreatDoor
open Go.RowKit
set_option maxRecDepth 100000 in
set_option maxHeartbeats 1000000 in
theorem lib_IndexZ (v : Value) (ks : List Int) (x : Int) (B : Nat) (w : World) (hv : RdKs w (· < B) v ks) (hB : B ≤ w.heap.size) :
    Calls Tryz.prog 161 #[v, .int .i64 x] w (fun e w' => ∃ r : Int, e = .returned (.int .i64 r) ∧ (x ∈ ks ↔ 0 ≤ r) ∧ Below w.heap.size w w') := by
  have hmx := rdKs_max hv
  have HV := hid hv
  obtain ⟨va, vc, rfl, -⟩ := hv
  have HMEM : Hid (∀ j, j < ks.length → ks.getD j 0 ∈ ks) := hid (fun j h => getD_mem h 0)
  have HALL : Hid ((∀ j, j < ks.length → ks.getD j 0 ≠ x) → x ∉ ks) := hid (fun h hx => by
    obtain ⟨j, hj, e⟩ := List.getElem_of_mem hx
    exact h j hj (by simp [List.getD, hj, e]))
  generalize hl : ks.length = L at *
  have HL := hid hl
  clear hl
  go_enter Tryz.func161, Tryz.ntmps161
  go_wp2_with fail
  go_loopg [8] L (fun N u wr => ∃ q : Nat, q + N = L ∧ u = .int .i64 (q : Int) ∧ Hid (Below w.heap.size w wr) ∧ Hid (∀ j, j < q → ks.getD j 0 ≠ x))
  case atStart => exact ⟨0, by omega, rfl, hid (Below.refl _ _), hid (fun j h => absurd h (by omega))⟩
  case round =>
    obtain ⟨q, hq, rfl, HB, HNE⟩ := hrel
    by_cases hp : 0 < gk
    · have hqL : q < L := by omega
      obtain ⟨b, o, c3, e3, hb, h5⟩ := ks_at (HV.out.keep (w' := wr) fun p (hp : p.block < B) => HB.out.cell (p := p) (by omega)) (k := q) (by rw [HL.out]; exact hqL)
      rw [HL.out] at e3
      obtain ⟨rfl, -, rfl⟩ := Value.slice.inj e3
      have hqi : (q : Int) < (L : Int) := by omega
      have HQ := hid (HMEM.out q hqL)
      clear e3 hb
      by_cases hd : ks.getD q 0 = x
      · rw [hd] at h5 HQ
        have hxx : (x == x) = true := by simp
        clear hd
        go_wp2
        go_ret
        exact ⟨(q : Int), rfl, ⟨fun _ => by omega, fun _ => HQ.out⟩, HB.out⟩
      · have HD := hid hd
        have HN2 : Hid (∀ j, j < q + 1 → ks.getD j 0 ≠ x) := hid (fun j hj => by
          rcases Nat.lt_or_ge j q with h1 | h1
          · exact HNE.out j h1
          · obtain rfl : j = q := by omega
            exact hd)
        clear hd HQ
        generalize ks.getD q 0 = y at *
        have hxx : (x == y) = false := by
          have := HD.out
          simp
          omega
        have hxy : ¬ x = y := fun e => HD.out e.symm
        go_wp2
        go_roundg (gk - 1)
        case rel => exact ⟨q + 1, by omega, by go_num, HB, HN2⟩
        case measure => omega
    · obtain rfl : gk = 0 := by omega
      obtain rfl : L = q := by omega
      have HN := hid (HALL.out HNE.out)
      go_wp2
      go_ret
      exact ⟨-1, rfl, ⟨fun h => absurd h HN.out, fun h => absurd h (by omega)⟩, HB.out⟩
set_option maxHeartbeats 1000000 in
theorem lib_ContainsZ (v : Value) (ks : List Int) (x : Int) (B : Nat) (w : World) (hv : RdKs w (· < B) v ks) (hB : B ≤ w.heap.size) :
    Calls Tryz.prog 99 #[v, .int .i64 x] w (Ret w (.bool (decide (x ∈ ks)))) := by
  have HI := hid (lib_IndexZ v ks x B w hv hB)
  obtain ⟨va, vc, rfl, -⟩ := hv
  have HD : Hid (∀ r : Int, (x ∈ ks ↔ 0 ≤ r) → decide (x ∈ ks) = decide (0 ≤ r)) := hid (fun r h => by simp only [h])
  generalize ks.length = L at *
  generalize decide (x ∈ ks) = D at *
  go_enter Tryz.func99, Tryz.ntmps99
  go_wp2_with fail
  with_reducible refine HI.out.mono ?_
  rintro e w1 ⟨r, rfl, hr, hb1⟩
  have hD := HD.out r hr
  have HB1 := hid hb1
  clear hb1 HI HD hr
  by_cases h0 : 0 ≤ r
  · obtain rfl : D = true := by rw [hD, decide_eq_true h0]
    clear hD
    go_wp2
    go_ret
    exact ⟨ret_bool (by simp <;> omega), HB1.out⟩
  · obtain rfl : D = false := by rw [hD, decide_eq_false h0]
    clear hD
    go_wp2
    go_ret
    exact ⟨ret_bool (by simp <;> omega), HB1.out⟩
theorem z_flat (ks : List Int) : ks.map (fun k => Value.int .i64 k) = flatK 1 ks.length (zF ks) := by
  apply List.ext_getElem?
  intro m
  by_cases hm : m < ks.length
  · have h := flatK_at (k := 1) (f := zF ks) hm (show 0 < 1 by omega)
    simp only [Nat.mul_one, Nat.add_zero] at h
    rw [h]
    simp [zF, List.getD, hm]
  · rw [List.getElem?_eq_none (by simp; omega), List.getElem?_eq_none (by rw [flatK_len]; omega)]
theorem anc_step {xs : List Lk} {k : Nat} {S : List Int} : ancL xs (k + 1) S = match toL xs (S.getLastD 0) with
    | none => S
    | some y => if S.any (fun i => decide (i = y.src)) = true then S else ancL xs k (S ++ [y.src]) := rfl
theorem toL_src {xs : List Lk} {id : Int} {y : Lk} (h : toL xs id = some y) : y.src ∈ xs.map Lk.src := List.mem_map_of_mem (List.mem_of_find?_eq_some h)
theorem any_mem (S : List Int) (x : Int) : S.any (fun i => decide (i = x)) = decide (x ∈ S) := by
  rw [Bool.eq_iff_iff, List.any_eq_true, decide_eq_true_iff]
  constructor
  · rintro ⟨i, hi, h⟩
    rw [← of_decide_eq_true h]
    exact hi
  · intro h
    exact ⟨x, h, by simp⟩
theorem seen_le {xs : List Lk} {t : Int} {S : List Int} (hn : S.Nodup) (h : ∀ i ∈ S, i = t ∨ i ∈ xs.map Lk.src) : S.length ≤ xs.length + 1 := by
  have h1 := nodup_leI hn (l := t :: xs.map Lk.src) fun i hi => by
    rcases h i hi with rfl | h2
    · exact List.mem_cons_self
    · exact List.mem_cons_of_mem _ h2
  simpa using h1
theorem drop_seen {W : World} {base g n c : Nat} {S : List Int} (hown : W.ownsRow base 3 1 (.slice (some ⟨g, 0, none⟩) n c) n (S.map fun k => Value.int .i64 k)) (hn : S.length = n) (h1 : 1 ≤ n) {a : Option Addr} (ha : c - 1 = 0 ∨ a = some ⟨g, 1, none⟩) {m c' : Nat} (hm : m = n - 1) (hc' : c' = c - 1) :
    RdKs W (fun b => base ≤ b ∧ b < W.heap.size) (.slice a m c') (S.drop 1) := by
  subst hm hc'
  have hlt := hown.lt g rfl
  rcases hown.2 with ⟨e, -⟩ | ⟨g2, cap, cur, e, hb, hheap, hnc, hcm, hsz, ht⟩
  · cases e
  · obtain ⟨e1, -, e2⟩ := Value.slice.inj e
    injection e1 with e3
    injection e3 with e4
    subst e4 e2
    have hld : (S.drop 1).length = n - 1 := by rw [List.length_drop, hn]
    unfold RdKs
    rw [hld]
    refine ⟨a, c - 1, rfl, by omega, by omega, fun hp => ?_⟩
    rcases ha with h0 | rfl
    · omega
    · refine ⟨g, 1, rfl, hlt, fun i hi j hj => ?_⟩
      obtain rfl : j = 0 := by omega
      have h3 := hown.cellAt (1 + i) (by omega)
      rw [show 1 + i * 1 + 0 = 1 + i by omega, h3]
      have h5 : 1 + i < S.length := by omega
      simp [zF, List.getD, Nat.add_comm 1 i, show i + 1 < S.length by omega]
def AncP (w : World) (xs : List Lk) (K : Nat) (t : Int) (e : Ending) (w' : World) : Prop :=
  ∃ u, e = .returned u ∧ RdKs w' (News w w') u ((ancL xs K [t]).drop 1) ∧ Below w.heap.size w w'
set_option maxRecDepth 100000 in
set_option maxHeartbeats 4000000 in
theorem lin_Ancestors (v : Value) (xs : List Lk) (B : Nat) (t : Int) (K : Nat) (w : World) (hK0 : xs.length + 1 ≤ K) (hl : xs.length ≤ 1048570) (hv : RdLk w (· < B) v xs) (hB : B ≤ w.heap.size) :
  Calls Tryz.prog 55 #[v, .int .i64 t] w (AncP w xs K t) := by
 have HTO := hid (fun id W (hW : Below w.heap.size w W) => lin_to v xs B id W (by omega) (hv.keep fun p (hp : p.block < B) => hW.cell (p := p) (by omega)) (Nat.le_trans hB hW.size))
 obtain ⟨va, vc, rfl, hvl, hvm⟩ := rdLk_len hv
 have HST := hid (fun k S => @anc_step xs k S)
 have HSL := hid (fun S => @seen_le xs t S)
 have HTS := hid (fun id y => @toL_src xs id y)
 clear hv
 unfold AncP
 generalize hK : ancL xs K [t] = R at *
 have HK := hid hK
 clear hK
 generalize hxl : xs.length = L at *
 clear hxl
 obtain ⟨i0, hi, hz0, hz1, hz2⟩ := info_parts info_int0
 have hown0 : (w.alloc (.cells #[.int .i64 t] 3)).ownsRow w.heap.size 3 1 (.slice (some ⟨w.heap.size, 0, none⟩) 1 1) 1 ([t].map fun k => Value.int .i64 k) := ⟨rfl, .inr ⟨w.heap.size, 1, #[.int .i64 t], rfl, Nat.le_refl _, BoxN.new _ _ _, Nat.le_refl _, by unfold maxLen; omega, rfl, rfl⟩⟩
 have HOWN0 := hid hown0
 have HB0 := hid ((Below.refl w.heap.size w).alloc (Nat.le_refl _) (.cells #[.int .i64 t] 3))
 clear hown0
 go_enter Tryz.func55, Tryz.ntmps55
 generalize hLA : Code.loop _ = LA
 go_wp2_with fail
 generalize w.alloc (.cells #[.int .i64 t] 3) = W0 at *
 subst hLA
 go_loopg [5] K (fun N s5 wr => ∃ (S : List Int) (g c r : Nat), s5 = .slice (some ⟨g, 0, none⟩) (r + 1) c ∧ S.length = r + 1 ∧ r + N = K ∧ Hid (S.Nodup) ∧ Hid (∀ i ∈ S, i = t ∨ i ∈ xs.map Lk.src) ∧ Hid (ancL xs N S = R) ∧ Hid (Below w.heap.size w wr) ∧
  Hid (wr.ownsRow w.heap.size 3 1 (.slice (some ⟨g, 0, none⟩) (r + 1) c) (r + 1) (S.map fun k => Value.int .i64 k)))
 case atStart => exact ⟨[t], w.heap.size, 1, 0, rfl, rfl, by omega, hid (by simp), hid (by simp), HK, HB0, HOWN0⟩
 case round =>
  obtain ⟨S, g, c, r, rfl, hS, hr, HND, HIN, HAN, HB, HOW⟩ := hrel
  have hsl := HSL.out S HND.out HIN.out
  obtain ⟨k, rfl⟩ : ∃ k, gk = k + 1 := ⟨gk - 1, by omega⟩
  have han := HAN.out
  rw [HST.out] at han
  have hrL : r ≤ L := by omega
  have hlast : S.getLastD 0 = S.getD r 0 := by
   have h1 : S ≠ [] := fun e => by rw [e] at hS; simp at hS
   rw [List.getLastD_eq_getLast?, List.getLast?_eq_getElem?, hS]
   rfl
  have hk0 := HOW.out.cellAt r (by omega)
  have k0 : wr.cell? ⟨g, r, none⟩ = some (.int .i64 (S.getLastD 0)) := by
   rw [hk0, hlast]
   simp [List.getD, show r < S.length by omega]
  have HTQ := hid (HTO.out (S.getLastD 0) wr HB.out)
  unfold ToP at HTQ
  have HTSq := hid (HTS.out (S.getLastD 0))
  have HCO := hid (fun W (hW : Below wr.heap.size wr W) x => (lib_ContainsZ (.slice (some ⟨g, 0, none⟩) (r + 1) c) S x W.heap.size W (by
   have h1 := own_later HOW.out hW
   rw [z_flat, hS] at h1
   have h2 := inK_of_owns h1
   unfold RdKs
   rw [hS]
   exact h2.more fun b hb => (h1.lt b hb).2) (Nat.le_refl _)))
  generalize S.getLastD 0 = last at *
  generalize hT : toL xs last = T at *
  clear hT hlast hk0
  have hwr1 : IntKind.i64.wrap (((r + 1 : Nat) : Int) - 1) = (r : Int) := IntWalk.i64_in _ (by omega) |>.trans (by omega)
  have hri : (r : Int) < ((r + 1 : Nat) : Int) := by omega
  have hwz := HB.out.size
  go_wp2_with fail
  with_reducible refine HTQ.out.mono ?_
  rintro e w5 ⟨hb5, hm⟩
  have hw5 := hb5.size
  have HB5 := hid (HB.out.trans (hb5.mono hwz))
  have HS5 := hid hb5
  have HO5 := hid (own_later HOW.out hb5)
  clear hb5 HTQ k0
  cases T with
  | none =>
   have he : e = .returned (.tuple #[.agg #[.int .i64 0, .int .i64 0, .slice none 0 0], .bool false]) := hm
   subst he
   have hSR : S = R := han
   clear han HCO HTSq
   have HB6 := hid (HB5.out.alloc HB5.out.size (.cells #[.int .i64 0, .int .i64 0, .slice none 0 0] 76))
   have HO6 := hid (HO5.out.alloc (.cells #[.int .i64 0, .int .i64 0, .slice none 0 0] 76))
   have hz6 : (w5.alloc (.cells #[.int .i64 0, .int .i64 0, .slice none 0 0] 76)).heap.size = w5.heap.size + 1 := by simp
   go_wp2
   all_goals
    go_ret
    refine ⟨_, rfl, ?_, HB6.out⟩
    first
     | (rw [← List.drop_one, ← hSR]; exact drop_seen HO6.out hS (by omega) (.inr rfl) (by omega) (by omega))
     | (rw [← List.drop_one, ← hSR]; exact drop_seen HO6.out hS (by omega) (.inl (by omega)) (by omega) (by omega))
  | some y =>
   obtain ⟨ua, uc, he, -⟩ : ∃ a c, e = .returned (.tuple #[.agg #[.int .i64 y.src, .int .i64 y.dst, .slice a y.ops.length c], .bool true]) ∧ RdPo wr (· < B) (.slice a y.ops.length c) y.ops := hm
   subst he
   have hys := HTSq.out y rfl
   have han2 : (if S.any (fun i => decide (i = y.src)) = true then S else ancL xs k (S ++ [y.src])) = R := han
   rw [any_mem] at han2
   clear han HTSq
   obtain ⟨ys, yd, yo⟩ := y
   simp only at hys han2 ⊢
   have HYS := hid hys
   generalize yo.length = l at *
   have HB6 := hid (HB5.out.alloc HB5.out.size (.cells #[.int .i64 ys, .int .i64 yd, .slice ua l uc] 76))
   have hs6 := HS5.out.trans (((Below.refl w5.heap.size w5).alloc (Nat.le_refl _) (.cells #[.int .i64 ys, .int .i64 yd, .slice ua l uc] 76)).mono hw5)
   have HO6 := hid (HO5.out.alloc (.cells #[.int .i64 ys, .int .i64 yd, .slice ua l uc] 76))
   have hz6 : (w5.alloc (.cells #[.int .i64 ys, .int .i64 yd, .slice ua l uc] 76)).heap.size = w5.heap.size + 1 := by simp
   have HCQ := hid (HCO.out (w5.alloc (.cells #[.int .i64 ys, .int .i64 yd, .slice ua l uc] 76)) hs6 ys)
   clear hys hs6 HCO
   by_cases hmem : ys ∈ S
   ·have hSR : S = R := by rw [← han2, decide_eq_true hmem, if_pos rfl]
    rw [decide_eq_true hmem] at HCQ
    clear han2 hmem
    go_wp2_with fail
    with_reducible refine HCQ.out.mono ?_
    rintro e w7 ⟨rfl, hb7⟩
    have HB7 := hid (HB6.out.trans (hb7.mono HB6.out.size))
    have HO7 := hid (own_later HO6.out hb7)
    clear hb7
    go_wp2
    all_goals
     go_ret
     refine ⟨_, rfl, ?_, HB7.out⟩
     first
      | (rw [← List.drop_one, ← hSR]; exact drop_seen HO7.out hS (by omega) (.inr rfl) (by omega) (by omega))
      | (rw [← List.drop_one, ← hSR]; exact drop_seen HO7.out hS (by omega) (.inl (by omega)) (by omega) (by omega))
   ·have hSR : ancL xs k (S ++ [ys]) = R := by rw [← han2, decide_eq_false hmem, if_neg (by simp)]
    rw [decide_eq_false hmem] at HCQ
    have HSR := hid hSR
    have HND2 : Hid ((S ++ [ys]).Nodup) := hid (List.nodup_append.2 ⟨HND.out, by simp, fun x hx u hu e => by rw [List.mem_singleton.1 hu] at e; rw [e] at hx; exact hmem hx⟩)
    have HIN2 : Hid (∀ i ∈ S ++ [ys], i = t ∨ i ∈ xs.map Lk.src) := hid (fun i hi => by
     rcases List.mem_append.1 hi with h | h
     ·exact HIN.out i h
     ·rw [List.mem_singleton.1 h]; exact .inr HYS.out)
    clear han2 hmem hSR
    go_wp2_with fail
    with_reducible refine HCQ.out.mono ?_
    rintro e w7 ⟨rfl, hb7⟩
    have hl6 := (BoxN.new w5 #[.int .i64 ys, .int .i64 yd, .slice ua l uc] 76).below hb7 (by simp)
    have x0 := hl6.cell 0 rfl
    have HB7 := hid (HB6.out.trans (hb7.mono HB6.out.size))
    have HO7 := hid ((own_later HO6.out hb7).alloc (.cells #[.int .i64 ys] 3))
    have HN7 := hid (BoxN.new w7 #[.int .i64 ys] 3)
    have HB8 := hid (HB7.out.alloc HB7.out.size (.cells #[.int .i64 ys] 3))
    have hol := HO7.out.lt
    have hw7 := HB7.out.size
    clear hb7 hl6
    go_wp2_with (at_builtin; refine wpList_append_form _ rfl _ _ 22 22 rfl w.heap.size 3 3 i0 (.int .i64 0) 1 8 Tryz.underlying22 Tryz.underlying22 hi hz0 hz1 hz2 rfl (by decide) (.slice (some ⟨g, 0, none⟩) (r + 1) c) (r + 1) _ rfl HO7.out (some ⟨_, 0, none⟩) 1 1 [.int .i64 ys] rfl rfl (fun _ => ⟨_, rfl, World.news_of_block HN7.out⟩) (by intro u hu; simp at hu; subst hu; rfl) (by omega) (by unfold maxLen; omega) (by omega) (by simp; omega) ?_; intro p8 cap8 w8 hown8 hg8 hat8 hlt8; have HG8 := hid hg8; have HOWN8 := hid hown8; clear hown8 hg8 hat8)
    go_wp2
    have hg8 := HG8.out
    have HB9 : Hid (Below w.heap.size w w8) := hid (HB8.out.trans ⟨hg8.os, hg8.tape, hg8.output, hg8.size, fun k hk => hg8.block k (Nat.lt_of_lt_of_le hk HB8.out.size) (fun e => by have := (hol k e.symm).1; omega)⟩)
    go_roundg k
    case rel => exact ⟨S ++ [ys], p8, cap8, r + 1, rfl, by simp [hS], by omega, HND2, HIN2, HSR, HB9, hid (by have h := HOWN8.out; simpa using h)⟩
    case measure => omega
end Go.Proofs.YtaajpliifdlokaaGreatDoor

namespace Go.Proofs.YtaajpliifdlokaaGreatDoor
open Go.RowKit Go.Shelf
theorem lib_SortZ (zs : List Int) (base : Nat) (v : Value) (w : World) (h : w.ownsRow base 3 1 v zs.length (zs.map (Value.int .i64))) (hs : zs.Pairwise fun a b => a < b) (hm : zs.length ≤ 1048576) :
    Calls Tryz.prog 53 #[v] w fun e w' => e = .returned (.tuple #[]) ∧ w'.ownsRow base 3 1 v zs.length (zs.map (Value.int .i64)) ∧ (∃ row, w.grownBy w' row ∧ ∀ k, row = some k → base ≤ k) := by
  rcases Nat.eq_zero_or_pos zs.length with h0 | h0
  · rcases h.2 with ⟨e1, -⟩ | ⟨blk, cap, cur, e1, -⟩
    · subst e1
      refine (AnyM.slices_Sort_int_none Tryz.sortInt none 0 w).mono ?_
      rintro e w' ⟨he, rfl⟩
      exact ⟨he, h, none, ⟨rfl, rfl, rfl, Nat.le_refl _, fun _ _ _ => rfl⟩, fun k hk => by cases hk⟩
    · have e2 := e1
      rw [h0] at e2
      rw [e2]
      refine (AnyM.slices_Sort_int_none Tryz.sortInt (some ⟨blk, 0, none⟩) cap w).mono ?_
      rintro e w' ⟨he, rfl⟩
      exact ⟨he, by rw [← e2]; exact h, none, ⟨rfl, rfl, rfl, Nat.le_refl _, fun _ _ _ => rfl⟩, fun k hk => by cases hk⟩
  · rcases h.2 with ⟨e1, h1⟩ | ⟨blk, cap, cur, e1, hb, hheap, hcn, hcm, hsz, ht⟩
    · omega
    · subst e1
      rw [Nat.mul_one] at ht
      have hH := holds_of_blockI hheap ht
      have hblk : blk < w.heap.size := (Array.getElem?_eq_some_iff.1 hheap).1
      have hme : zs.mergeSort (fun x y => decide (x ≤ y)) = zs := by
        refine perm_same (fun x : Int => x) (List.mergeSort_perm _ _) hs ?_
        have := List.pairwise_mergeSort (le := fun x y : Int => decide (x ≤ y)) (fun a b c h1 h2 => by simp at *; omega) (fun a b => by simp; omega) zs
        exact this.imp fun h => by simpa using h
      refine (AnyM.slices_Sort_int Tryz.sortInt blk 0 cap zs w hH hblk (by omega)).mono ?_
      rintro e w' ⟨he, n, os, rfl⟩
      rw [hme]
      exact ⟨he, ownsRow_sortedI (n := n) (os := os) (ss := zs) rfl hb hheap hcn hcm hsz, some blk, grownBy_sortedI _, fun k hk => by cases hk; exact hb⟩
def rootI (xs : List Lk) (t : Ta) : Option Int := if (toL xs t.id).isNone = true then some t.id else none
def rootIds (ts : List Ta) (xs : List Lk) : List Int := ts.filterMap (rootI xs)
theorem roots_asc (xs : List Lk) : ∀ {ts : List Ta} (_ : ts.Pairwise fun a b => a.id < b.id), (rootIds ts xs).Pairwise fun a b => a < b
  | [], _ => by simp [rootIds]
  | t :: ts, h => by
    obtain ⟨h1, h2⟩ := List.pairwise_cons.1 h
    have h3 := roots_asc xs h2
    unfold rootIds at *
    rw [List.filterMap_cons]
    unfold rootI at *
    by_cases h4 : (toL xs t.id).isNone = true
    · rw [if_pos h4]
      refine List.pairwise_cons.2 ⟨fun i hi => ?_, h3⟩
      obtain ⟨u, hu, e⟩ := List.mem_filterMap.1 hi
      have := h1 u hu
      split at e
      · have := Option.some.inj e
        omega
      · cases e
    · rw [if_neg h4]
      exact h3
def RootsP (w : World) (ts : List Ta) (xs : List Lk) (e : Ending) (w' : World) : Prop :=
  ∃ z, e = .returned z ∧ RdKs w' (News w w') z (rootIds ts xs) ∧ Below w.heap.size w w'
set_option maxRecDepth 100000 in
set_option maxHeartbeats 4000000 in
theorem lin_Roots (ts : List Ta) (xs : List Lk) (v u : Value) (B : Nat) (w : World) (h : ts.Pairwise fun a b => a.id < b.id) (hl : ts.length ≤ 1024) (hlx : xs.length ≤ 1048570) (hv : RdTa w (· < B) v ts) (hu : RdLk w (· < B) u xs) (hB : B ≤ w.heap.size) :
  Calls Tryz.prog 57 #[v, u] w (RootsP w ts xs) := by
 have HTO := hid (fun id W (hW : Below w.heap.size w W) => lin_to u xs B id W (by omega) (hu.keep fun p (hp : p.block < B) => hW.cell (p := p) (by omega)) (Nat.le_trans hB hW.size))
 obtain ⟨ua, uc, rfl, -, -⟩ := rdLk_len hu
 obtain ⟨tv, ⟨a, c, rfl, hcc, hcm, hr⟩, hco⟩ := hv
 have HR := hid hr
 have HCO := hid (fun q (hq : q < ts.length) => (by obtain ⟨cv, ⟨a, c, e, -⟩, -⟩ := hco q hq; exact ⟨a, _, c, e⟩ : ∃ a n c, tv q = .slice a n c))
 have HASC := hid (roots_asc xs h)
 have HSN := hid (fun q (hq : q < ts.length) => @fm_snoc _ (rootI xs) ts q hq)
 have HALL : Hid ((ts.take ts.length).filterMap (rootI xs) = rootIds ts xs) := hid (by rw [List.take_length]; rfl)
 have HLEN := hid (fun q => (by have h1 := List.length_filterMap_le (rootI xs) (ts.take q); have h2 := List.length_take_le q ts; omega : ((ts.take q).filterMap (rootI xs)).length ≤ q))
 clear hr hco hu h
 obtain ⟨i0, hi, hz0, hz1, hz2⟩ := info_parts info_int0
 generalize hL : ts.length = L at *
 have HL := hid hL
 clear hL
 generalize xs.length = M at *
 go_enter Tryz.func57, Tryz.ntmps57
 go_wp2_with fail
 go_loopg [12, 5] L (fun N i s5 wr => ∃ (q : Nat), i = .int .i64 (q : Int) ∧ q + N = L ∧ Hid (Below w.heap.size w wr) ∧ Hid (wr.ownsRow w.heap.size 3 1 s5 ((ts.take q).filterMap (rootI xs)).length (((ts.take q).filterMap (rootI xs)).map (Value.int .i64))))
 case atStart => exact ⟨0, rfl, by omega, hid (Below.refl _ _), hid (World.ownsRow_nil _ _ _ _)⟩
 case round =>
  obtain ⟨q, rfl, hq, HB, HOW⟩ := hrel
  have hwz := HB.out.size
  have hlq := HLEN.out q
  obtain ⟨oa, oc, hsl⟩ := own_slice HOW.out
  subst hsl
  by_cases hp : 0 < gk
  ·have hqL : q < L := by omega
   obtain ⟨b, o, rfl, hb, hcell⟩ := HR.out (by omega)
   have hbw : b < w.heap.size := by have : b < B := hb; omega
   have k0 := (HB.out.cell (p := ⟨b, o + q * 3 + 0, none⟩) hbw).trans (hcell q hqL 0 (by omega))
   have k1 := (HB.out.cell (p := ⟨b, o + q * 3 + 1, none⟩) hbw).trans (hcell q hqL 1 (by omega))
   have k2 := (HB.out.cell (p := ⟨b, o + q * 3 + 2, none⟩) hbw).trans (hcell q hqL 2 (by omega))
   simp only [taF, three, Nat.add_zero] at k0 k1 k2
   obtain ⟨ca, cn, ck, hcq⟩ := HCO.out q hqL
   rw [hcq] at k2
   have HSNq := hid (HSN.out q hqL)
   clear hcell hcq
   generalize ts.getD q Ta.z = t at *
   have HRI : Hid (rootI xs t = if (toL xs t.id).isNone = true then some t.id else none) := hid rfl
   obtain ⟨id, nm, xt⟩ := t
   simp only at k0 k1 HRI
   have hbx := BoxN.new wr #[.int .i64 id, .string nm, .slice ca cn ck] 51
   have hsx := (Below.refl wr.heap.size wr).alloc (Nat.le_refl _) (.cells #[.int .i64 id, .string nm, .slice ca cn ck] 51)
   obtain ⟨W2, hW2⟩ : ∃ W, W = wr.alloc (.cells #[.int .i64 id, .string nm, .slice ca cn ck] 51) := ⟨_, rfl⟩
   rw [← hW2] at hbx hsx
   have x0 := hbx.cell 0 rfl
   have HBX := hid hbx
   have HSX := hid hsx
   have hbl := hbx.lt
   have HB2 := hid (HB.out.trans (hsx.mono hwz))
   have HTQ := hid (HTO.out id W2 HB2.out)
   unfold ToP at HTQ
   generalize toL xs id = T at *
   rw [hW2] at x0
   clear hbx hsx
   go_wp2_with fail
   rw [← hW2]
   clear hW2 x0 k0 k1 k2
   with_reducible refine HTQ.out.mono ?_
   rintro e w5 ⟨hb5, hm⟩
   have hw5 := hb5.size
   have HB5 := hid (HB2.out.trans (hb5.mono HB2.out.size))
   have HS5 := hid (HSX.out.trans (hb5.mono (Nat.le_trans (Nat.le_of_lt (by have := hbl; omega : wr.heap.size < W2.heap.size)) (Nat.le_refl _))))
   have HBX5 := hid (HBX.out.below hb5 hbl)
   clear hb5 HTQ
   cases T with
   | none =>
    have he : e = .returned (.tuple #[.agg #[.int .i64 0, .int .i64 0, .slice none 0 0], .bool false]) := hm
    subst he
    have HRI2 : Hid (rootI xs ⟨id, nm, xt⟩ = some id) := HRI
    have HB6 := hid (HB5.out.alloc HB5.out.size (.cells #[.int .i64 0, .int .i64 0, .slice none 0 0] 76))
    have HBX6 := hid (HBX5.out.alloc (.cells #[.int .i64 0, .int .i64 0, .slice none 0 0] 76))
    have HO6 := hid (((own_later HOW.out HS5.out).alloc (.cells #[.int .i64 0, .int .i64 0, .slice none 0 0] 76)).alloc (.cells #[.int .i64 id] 3))
    have hn7 := BoxN.new (w5.alloc (.cells #[.int .i64 0, .int .i64 0, .slice none 0 0] 76)) #[.int .i64 id] 3
    rw [World.size_alloc] at hn7
    have HN7 := hid hn7
    have HB7 := hid (HB6.out.alloc HB6.out.size (.cells #[.int .i64 id] 3))
    have hw7 := HB7.out.size
    have hol := HO6.out.lt
    have x0 := HBX6.out.cell 0 rfl
    generalize hnl : ((ts.take q).filterMap (rootI xs)).length = nl at *
    have HNL := hid hnl
    clear hnl hn7 hm
    go_wp2_with (at_builtin; refine wpList_append_form _ rfl _ _ 22 22 rfl w.heap.size 3 3 i0 (.int .i64 0) 1 8 Tryz.underlying22 Tryz.underlying22 hi hz0 hz1 hz2 rfl (by decide) (.slice oa nl oc) nl _ rfl HO6.out (some ⟨_, 0, none⟩) 1 1 [.int .i64 id] rfl rfl (fun _ => ⟨_, rfl, World.news_of_block HN7.out⟩) (by intro u hu; simp at hu; subst hu; rfl) (by omega) (by unfold maxLen; omega) (by omega) (by simp; omega) ?_; intro p8 cap8 w8 hown8 hg8 hat8 hlt8; have HG8 := hid hg8; have HOWN8 := hid hown8; clear hown8 hg8 hat8)
    go_wp2
    have hg8 := HG8.out
    have HB9 : Hid (Below w.heap.size w w8) := hid (HB7.out.trans ⟨hg8.os, hg8.tape, hg8.output, hg8.size, fun k hk => hg8.block k (Nat.lt_of_lt_of_le hk HB7.out.size) (fun e => by have := (hol k e.symm).1; omega)⟩)
    go_roundg (gk - 1)
    case rel => exact ⟨q + 1, by go_num, by omega, HB9, hid (by
     rw [HSNq.out, HRI2.out]
     simp only [Option.toList_some, List.length_append, List.length_singleton, List.map_append, List.map_cons, List.map_nil]
     rw [HNL.out]
     exact HOWN8.out)⟩
    case measure => omega
   | some y =>
    obtain ⟨ya, yc, he, -⟩ : ∃ a c, e = .returned (.tuple #[.agg #[.int .i64 y.src, .int .i64 y.dst, .slice a y.ops.length c], .bool true]) ∧ RdPo W2 (· < B) (.slice a y.ops.length c) y.ops := hm
    subst he
    have HRI2 : Hid (rootI xs ⟨id, nm, xt⟩ = none) := HRI
    obtain ⟨ys, yd, yo⟩ := y
    simp only
    generalize yo.length = l at *
    have HS6 := hid (HS5.out.trans (((Below.refl w5.heap.size w5).alloc (Nat.le_refl _) (.cells #[.int .i64 ys, .int .i64 yd, .slice ya l yc] 76)).mono HS5.out.size))
    go_wp2
    go_roundg (gk - 1)
    case rel => exact ⟨q + 1, by go_num, by omega, hid (HB.out.trans (HS6.out.mono hwz)), hid (by
     rw [HSNq.out, HRI2.out]
     simp only [Option.toList_none, List.append_nil]
     exact own_later HOW.out HS6.out)⟩
    case measure => omega
  ·obtain rfl : gk = 0 := by omega
   obtain rfl : L = q := by omega
   have HOWX : Hid (wr.ownsRow w.heap.size 3 1 (.slice oa ((ts.take L).filterMap (rootI xs)).length oc) ((ts.take L).filterMap (rootI xs)).length (((ts.take L).filterMap (rootI xs)).map (Value.int .i64))) := HOW
   rw [HALL.out] at HOWX hlq
   rw [HALL.out]
   have HSO := hid (lib_SortZ (rootIds ts xs) w.heap.size _ wr HOWX.out HASC.out (by omega))
   unfold RootsP
   generalize hRE : rootIds ts xs = R at *
   have HRE := hid hRE
   clear hRE
   generalize hrl : R.length = rl at *
   have HRL := hid hrl
   clear hrl HOW HOWX
   go_wp2_with fail
   with_reducible refine HSO.out.mono ?_
   rintro e w7 ⟨rfl, hown, row, hg, hrow⟩
   have HB7 : Hid (Below w.heap.size w w7) := hid (HB.out.trans ⟨hg.os, hg.tape, hg.output, hg.size, fun k hk => hg.block k (by omega) (fun e => by have := hrow k e.symm; omega)⟩)
   have hks : RdKs w7 (News w w7) (.slice oa rl oc) R := by
    have h1 := hown
    rw [← HRL.out] at h1 ⊢
    have h2 : w7.ownsRow w.heap.size 3 1 (.slice oa R.length oc) R.length (flatK 1 R.length (zF R)) := by rw [← z_flat]; exact h1
    exact (inK_of_owns h2).more fun b hb => h2.lt b hb
   have HKS := hid hks
   clear hg hown hrow hks
   go_wp2
   go_ret
   exact ⟨_, rfl, by rw [HRE.out]; exact HKS.out, HB7.out⟩
end Go.Proofs.YtaajpliifdlokaaGreatDoor

namespace Go.Proofs.YtaajpliifdlokaaGreatDoor
open Go.RowKit
theorem chain_links : (linksL chainL).map (fun x => (x.src, x.dst)) = [(1, 2), (2, 3)] := by decide +kernel
theorem chain_anc : ancL (linksL chainL) 3 [3] = [3, 2, 1] := by decide +kernel
theorem chain_roots : rootIds chainL (linksL chainL) = [1] := by decide +kernel
theorem chain_cols : (∀ x ∈ [(⟨⟨#[97]⟩, ksL 4⟩ : Co), ⟨⟨#[98]⟩, nulL⟩], TextOk 1024 x.name ∧ x.cells.length = 4 ∧ ∀ c ∈ x.cells, CellOk c) ∧ (∀ x ∈ chC 3, TextOk 1024 x.name ∧ x.cells.length = 3 ∧ ∀ c ∈ x.cells, CellOk c) ∧ (∀ x ∈ chC 1, TextOk 1024 x.name ∧ x.cells.length = 1 ∧ ∀ c ∈ x.cells, CellOk c) := by
  unfold CellOk TextOk
  decide +kernel
theorem chain_text : TextOk 1024 ⟨#[]⟩ := by unfold TextOk; decide +kernel
theorem chain_few : ∀ t ∈ chainL, Few t.cols := by
  obtain ⟨h1, h2, h3⟩ := chain_cols
  intro t ht
  simp only [chainL, List.mem_cons, List.not_mem_nil, or_false] at ht
  rcases ht with rfl | rfl | rfl
  · exact ⟨4, by omega, h1⟩
  · exact ⟨3, by omega, h2⟩
  · exact ⟨1, by omega, h3⟩
theorem chain_list : ListV chainL := by
  obtain ⟨h1, h2, h3⟩ := chain_cols
  refine ⟨by decide, fun t ht => ?_, by decide⟩
  simp only [chainL, List.mem_cons, List.not_mem_nil, or_false] at ht
  rcases ht with rfl | rfl | rfl
  · exact ⟨by decide, by decide, chain_text, by decide, 4, by omega, h1⟩
  · exact ⟨by decide, by decide, chain_text, by decide, 3, by omega, h2⟩
  · exact ⟨by decide, by decide, chain_text, by decide, 1, by omega, h3⟩
theorem links_right {ts : List Ta} (h : ListV ts) (hf : ∀ t ∈ ts, Few t.cols) : ∀ x ∈ linksL ts, RightL ts x := fun x hx => by
  obtain ⟨a, ha, b, hb, e1, e2, e3, e4, e5, e6⟩ := link_right hx h.2.1
  exact ⟨a, ha, b, hb, hf a ha, e1, e2, e3, e4, e5, e6⟩
set_option maxRecDepth 100000 in
set_option maxHeartbeats 1000000 in
theorem law39_ints (u v : Value) (ks : List Int) (B : Nat) (w : World) (hu : RdKs w (· < B) u ks) (hv : RdKs w (· < B) v ks) (hB : B ≤ w.heap.size) :
    Calls Tryz.prog 56 #[u, v] w (Ret w (.bool true)) := by
  have hmx := rdKs_max hu
  have HU := hid hu
  have HV := hid hv
  obtain ⟨ua, uc, rfl, -⟩ := hu
  obtain ⟨va, vc, rfl, -⟩ := hv
  generalize hl : ks.length = L at *
  have HL := hid hl
  clear hl
  go_enter Tryz.func56, Tryz.ntmps56
  go_wp2_with fail
  go_loopg [14] L (fun N i wr => ∃ q : Nat, q + N = L ∧ i = .int .i64 (q : Int) ∧ Hid (Below w.heap.size w wr))
  case atStart => exact ⟨0, by omega, rfl, hid (Below.refl _ _)⟩
  case round =>
    obtain ⟨q, hq, rfl, HB⟩ := hrel
    by_cases hp : 0 < gk
    · have hqL : q < L := by omega
      obtain ⟨b, o, c3, e3, hb, h5⟩ := ks_at (HU.out.keep (w' := wr) fun p (hp : p.block < B) => HB.out.cell (p := p) (by omega)) (k := q) (by rw [HL.out]; exact hqL)
      obtain ⟨b2, o2, c4, e4, hb2, h6⟩ := ks_at (HV.out.keep (w' := wr) fun p (hp : p.block < B) => HB.out.cell (p := p) (by omega)) (k := q) (by rw [HL.out]; exact hqL)
      rw [HL.out] at e3 e4
      obtain ⟨rfl, -, rfl⟩ := Value.slice.inj e3
      obtain ⟨rfl, -, rfl⟩ := Value.slice.inj e4
      have hqi : (q : Int) < (L : Int) := by omega
      clear e3 e4 hb hb2
      generalize ks.getD q 0 = x at *
      have hxx : (x != x) = false := by simp
      go_wp2
      go_roundg (gk - 1)
      case rel => exact ⟨q + 1, by omega, by go_num, HB⟩
      case measure => omega
    · obtain rfl : gk = 0 := by omega
      obtain rfl : L = q := by omega
      go_wp2
      go_ret
      exact ⟨rfl, HB.out⟩
end Go.Proofs.YtaajpliifdlokaaGreatDoor
