/- Contract of copies.Names. Contract of copies.Align. DERIVED: THE SHELF's CONTRACTS AT THIS DUMP, IN PLAIN WORDS (tools/lay-plain.mjs out of 'YthblaeleogdfpaaGreatDoorShIL.lean', which tools/lay-shelf.mjs wrote): THE SAME DECLARATIONS UNDER THE SAME NAMES: 'import', 'namespace', 'open', 'def', 'theorem' AND NOTHING ELSE: no command of the shelf's: FOR A HAND-IN. Each laying: the table of numbers ('.._ren') and one theorem, a field a fact of the dump's own or the kernel's comparison; each contract: ONE APPLICATION. -/
import Derived.Sort.OwnSorted
import Derived.Shelf.SlicesG.Clone
import Derived.Shelf.SlicesG.CompactS
import Derived.Shelf.SlicesG.Equal
import Derived.Shelf.SortM.Plain
import Derived.Shelf.SortM.SortNone
import Derived.Test.YthblaeleogdfpaaGreatDoorCToaa
import Derived.Test.YthblaeleogdfpaaGreatDoorCToab
import Derived.Test.YthblaeleogdfpaaGreatDoorCToac
import Derived.Shelf.Strconv.Itoa3
import Derived.Test.YthblaeleogdfpaaGreatDoorProg
set_option linter.unusedVariables false
set_option linter.unusedSimpArgs false
namespace Go.Proofs.YthblaeleogdfpaaGreatDoor
open Go.RowKit Go.Shelf Go.Sort Go.Lib
theorem lib_SortS0 (w : World) : Calls Tryz.prog 47 #[.slice none 0 0] w fun e w' => e = .returned (.tuple #[]) ∧ w' = w := AnyM.slices_Sort_string_none Tryz.sortC none 0 w
theorem lib_SortS (blk cap : Nat) (ss : List (List UInt8)) (w : World) (hH : Holds encStr w blk 0 ss.toArray) (hblk : blk < w.heap.size) (hsz : ss.length < 4611686018427387904) :
  Calls Tryz.prog 47 #[.slice (some ⟨blk, 0, none⟩) ss.length cap] w fun e w' =>
   e = .returned (.tuple #[]) ∧ ∃ n os, w' = Go.Sort.grow (putRow encStr (Sort.ahead w n) blk 0 (ss.mergeSort fun x y => decide (x ≤ y)).toArray) os := AnyM.slices_Sort_string Tryz.sortC blk 0 cap ss w hH hblk hsz
theorem lib_CloneS0 (w : World) : Calls Tryz.prog 49 #[.slice none 0 0] w fun e w' => e = .returned (.slice none 0 0) ∧ w' = w := AnyG.slices_Clone_string_nil Tryz.cloneC 0 0 w
theorem lib_CloneS (b n c : Nat) (zs : List ByteArray) (w : World) (hz : n ≤ zs.length) (hbig : n * 16 ≤ 140737488355328) (hc : ∀ j, j < zs.length → w.cell? ⟨b, 0 + j, none⟩ = some (.string (zs.getD j ByteArray.empty))) :
  Calls Tryz.prog 49 #[.slice (some ⟨b, 0, none⟩) n c] w fun e w' => ∃ v', e = .returned v' ∧ w'.ownsRow w.heap.size 9 1 v' n ((zs.take n).map (Value.string)) ∧ v' ≠ .slice none 0 0 ∧ Below w.heap.size w w' := AnyG.slices_Clone_string Tryz.cloneC b 0 n c zs w hz hbig hc
theorem lib_CompactS0 (a : Option Addr) (cap : Nat) (w : World) : Calls Tryz.prog 48 #[.slice a 0 cap] w fun e w' => e = .returned (.slice a 0 cap) ∧ w' = w := AnyG.slices_Compact_string_empty Tryz.compactC a cap w
theorem lib_CompactS (blk cap : Nat) (zs : List (List UInt8)) (w : World) (hH : Holds encStr w blk 0 zs.toArray) (hsz : zs.length ≤ 9223372036854775807) (hcap : zs.length ≤ cap) :
  Calls Tryz.prog 48 #[.slice (some ⟨blk, 0, none⟩) zs.length cap] w fun e w' => e = .returned (.slice (some ⟨blk, 0, none⟩) (Lib.compact zs).length cap) ∧ ∃ q, w' = putRow encStr (Sort.ahead w q) blk 0 (Lib.compact zs ++ List.replicate (zs.length - (Lib.compact zs).length) []).toArray := AnyG.slices_Compact_string Tryz.compactC blk 0 cap zs w hH hsz hcap
theorem lib_EqualS (b1 n c b2 m d : Nat) (xs ys : List ByteArray) (w : World) (hx : n ≤ xs.length) (hy : m ≤ ys.length) (hbig : n ≤ 9223372036854775807) (hbig2 : m ≤ 9223372036854775807) (hc1 : ∀ j, j < xs.length → w.cell? ⟨b1, 0 + j, none⟩ = some (.string (xs.getD j ByteArray.empty))) (hc2 : ∀ j, j < ys.length → w.cell? ⟨b2, 0 + j, none⟩ = some (.string (ys.getD j ByteArray.empty))) :
  Calls Tryz.prog 50 #[.slice (some ⟨b1, 0, none⟩) n c, .slice (some ⟨b2, 0, none⟩) m d] w fun e w' => e = .returned (.bool (decide (xs.take n = ys.take m))) ∧ ∃ q, w' = w.drewN q := AnyG.slices_Equal_string Tryz.equalC b1 0 n c b2 0 m d xs ys w hx hy hbig hbig2 hc1 hc2
theorem lib_EqualS0 (a1 a2 : Option Addr) (c m d : Nat) (w : World) (hbig2 : m ≤ 9223372036854775807) :
  Calls Tryz.prog 50 #[.slice a1 0 c, .slice a2 m d] w fun e w' => e = .returned (.bool (decide (m = 0))) ∧ w' = w := AnyG.slices_Equal_string_empty Tryz.equalC a1 a2 c m d w hbig2
end Go.Proofs.YthblaeleogdfpaaGreatDoor
namespace Go.Proofs.YthblaeleogdfpaaGreatDoor
open Go.RowKit Go.Shelf
open Go.Sort (Holds putRow)
theorem encStr_str (xs : List ByteArray) : (xs.map listOf).map encStr = xs.map Value.string := by
 rw [List.map_map]
 apply List.map_congr_left
 intro x _
 simp [listOf]
theorem sortL_enc (xs : List ByteArray) : (((xs.map listOf).mergeSort fun x y => decide (x ≤ y))).map encStr = (sortL xs).map Value.string := by
 unfold sortL
 rw [List.map_map]
 rfl
theorem sortL_listOf (xs : List ByteArray) : (sortL xs).map listOf = ((xs.map listOf).mergeSort fun x y => decide (x ≤ y)) := by
 unfold sortL
 rw [List.map_map]
 exact (List.map_congr_left fun x _ => listOf_bytesOf x).trans (List.map_id' _)
def NamesP (w : World) (N : List ByteArray) (e : Ending) (w' : World) : Prop :=
  ∃ a c, e = .returned (.tuple #[.slice a N.length c, .bool (decide N.Nodup)]) ∧ w'.ownsRow w.heap.size 9 1 (.slice a N.length c) N.length ((sortL N).map Value.string) ∧ Below w.heap.size w w'
theorem names_succ {xs : List Co} {q : Nat} (h : q < xs.length) : (namesL xs).take (q + 1) = (namesL xs).take q ++ [(xs.getD q Co.z).name] := by
 have h2 : q < (namesL xs).length := by simpa [namesL] using h
 rw [List.take_succ_eq_append_getElem h2, ← namesL_getD]
 simp [List.getD, h2]
set_option maxRecDepth 100000 in
set_option maxHeartbeats 4000000 in
theorem copies_Names (id : Int) (nm : ByteArray) (v : Value) (xs : List Co) (B : Nat) (w : World) (hv : RdCo w (· < B) v xs) (hB : B ≤ w.heap.size) (hl : xs.length ≤ 1048576) :
  Calls Tryz.prog 12 #[.agg #[.int .i64 id, .string nm, v]] w (NamesP w (namesL xs)) := by
 obtain ⟨cv, ⟨a, c, rfl, hc, hm, hr⟩, hkid⟩ := hv
 have HKD : Hid (∀ q, q < xs.length → ∃ a k m, cv q = .slice a k m) := hid (fun q hq => by
  obtain ⟨a, c, e, -⟩ := hkid q hq
  exact ⟨a, _, c, e⟩)
 clear hkid
 obtain ⟨i0, hi0, hz0, hz1, hz2⟩ := info_parts info_str
 have HR := hid hr
 have HNS := hid (fun q (h : q < xs.length) => names_succ h)
 have HNL : Hid ((namesL xs).length = xs.length) := hid (by simp [namesL])
 have hx := BoxN.new w #[.int .i64 id, .string nm, .slice a xs.length c] 24
 have HB0 : Hid (Below w.heap.size w (w.alloc (.cells #[.int .i64 id, .string nm, .slice a xs.length c] 24))) := hid ((Below.refl _ _).alloc (Nat.le_refl _) _)
 have hz : (w.alloc (.cells #[.int .i64 id, .string nm, .slice a xs.length c] 24)).heap.size = w.heap.size + 1 := by simp
 clear hr
 generalize hn : xs.length = n at *
 have HN := hid hn
 clear hn
 unfold maxLen at hm
 have c2 := hx.cell 2 rfl
 have HX := hid hx
 clear hx
 go_enter Tryz.func12, Tryz.ntmps12
 generalize hLA : Code.loop _ = LA
 go_wp2_with fail
 clear c2
 generalize hw0 : w.alloc (.cells #[.int .i64 id, .string nm, .slice a n c] 24) = W0 at *
 clear hw0
 subst hLA
 go_loopg [4, 10] n (fun N v i wr => ∃ q : Nat, q + N = n ∧ i = .int .i64 (q : Int) ∧ Hid (Below w.heap.size w wr ∧ wr.ownsRow w.heap.size 9 1 v ((namesL xs).take q).length (((namesL xs).take q).map Value.string)))
 case atStart => exact ⟨0, by omega, rfl, hid ⟨HB0.out, World.ownsRow_nil _ _ _ _⟩⟩
 case round =>
  obtain ⟨q, hq, rfl, HST⟩ := hrel
  obtain ⟨a3, c3, rfl⟩ := own_slice HST.out.2
  have hql : ((namesL xs).take q).length = q := by rw [List.length_take, HNL.out]; omega
  have HQL := hid hql
  rw [hql] at HST ⊢
  clear hql
  by_cases hp : 0 < gk
  ·obtain ⟨b, o, rfl, hb, hcell⟩ := HR.out (by omega)
   have hb' : b < B := hb
   have hwz := HST.out.1.size
   have k0 : wr.cell? ⟨b, o + q * 2, none⟩ = some (.string (xs.getD q Co.z).name) := (HST.out.1.cell (p := ⟨b, o + q * 2, none⟩) (by show b < _; omega)).trans (hcell q (by omega) 0 (by omega))
   have k1 : wr.cell? ⟨b, o + q * 2 + 1, none⟩ = some (cv q) := (HST.out.1.cell (p := ⟨b, o + q * 2 + 1, none⟩) (by show b < _; omega)).trans (hcell q (by omega) 1 (by omega))
   have HS1 := hid (HNS.out q (by omega))
   clear hcell
   obtain ⟨ka, kn, kc, hke⟩ := HKD.out q (by omega)
   rw [hke] at k1
   clear hke
   generalize (xs.getD q Co.z).name = s at *
   generalize hcur : (namesL xs).take q = cur at *
   clear hcur
   have HBA := hid (HST.out.1.alloc hwz (.cells #[.string s, .slice ka kn kc] 30))
   have HOA := hid (HST.out.2.alloc (.cells #[.string s, .slice ka kn kc] 30))
   have hza : (wr.alloc (.cells #[.string s, .slice ka kn kc] 30)).heap.size = wr.heap.size + 1 := by simp
   go_wp2_with (at_builtin; refine wpList_append_form _ rfl _ _ 37 37 rfl w.heap.size 9 9 i0 (.string ⟨#[]⟩) 1 16 Tryz.underlying37 Tryz.underlying37 hi0 hz0 hz1 hz2 rfl (by decide) (.slice a3 q c3) q (cur.map Value.string) rfl (HOA.out.alloc _) (some ⟨_, 0, none⟩) 1 1 [.string s] rfl rfl (fun _ => ⟨_, rfl, cell_one_at _ _ (by simp)⟩) (by intro u hu; simp at hu; subst hu; rfl) (by omega) (by unfold maxLen; omega) (by omega) (by simp; omega) ?_; intro p9 cap9 w9 hown9 hg9 hat9 hlt9; have HOWN9 := hid hown9; have HG9 := hid ((World.grownBy_alloc _ _ _).trans hg9); clear hown9 hg9 hat9)
   have HB9 : Hid (Below w.heap.size w w9) := hid (HBA.out.grown HG9.out HBA.out.size (fun k hk => (HOA.out.lt k hk).1))
   go_wp2
   go_roundg (gk - 1)
   case rel => exact ⟨q + 1, by omega, by go_num, hid ⟨HB9.out, by rw [HS1.out, List.length_append, List.length_singleton, HQL.out, List.map_append]; exact HOWN9.out⟩⟩
   case measure => omega
  ·obtain rfl : q = n := by omega
   have HTA : Hid ((namesL xs).take q = namesL xs) := hid (by rw [← HNL.out, List.take_length])
   have HSN := hid (set_nodup (namesL xs))
   have HSS := hid (sort_set (namesL xs))
   have HSE := hid (fun ys => encStr_str ys)
   have HSL := hid (sortL_enc (namesL xs))
   have HLO := hid (sortL_listOf (namesL xs))
   have HLN := hid (sortL_len (namesL xs))
   have HLS := hid (setOfL_len (namesL xs))
   have HCL := hid (compact_len (sortL (namesL xs)))
   rw [HTA.out] at HST
   unfold NamesP
   rw [HNL.out]
   rw [HNL.out] at HSN HLN HLS
   have HB := hid HST.out.1
   have HOWN := hid HST.out.2
   generalize namesL xs = N at *
   rcases HOWN.out.2 with ⟨e0, h0⟩ | ⟨gb, cap, arr, e1, hbase, hgb, r1, r2, r3, r4⟩
   ·obtain ⟨rfl, rfl, rfl⟩ := Value.slice.inj e0
    have hN : N = [] := List.eq_nil_of_length_eq_zero (by rw [HNL.out])
    subst hN
    go_wp2_with fail
    with_reducible refine (lib_SortS0 wr).mono ?_
    rintro e w' ⟨rfl, rfl⟩
    go_wp2_with fail
    with_reducible refine (lib_CloneS0 _).mono ?_
    rintro e w' ⟨rfl, rfl⟩
    go_wp2_with fail
    with_reducible refine (lib_CompactS0 none 0 _).mono ?_
    rintro e w' ⟨rfl, rfl⟩
    go_wp2
    go_ret2
    exact ⟨none, 0, rfl, by rw [show sortL [] = [] from List.eq_nil_of_length_eq_zero (sortL_len [])]; exact World.ownsRow_nil _ _ _ _, HB.out⟩
   ·obtain ⟨rfl, -, rfl⟩ := Value.slice.inj e1
    have hzl : (N.map listOf).length = q := by rw [List.length_map]; exact HNL.out
    have hH : Holds encStr wr gb 0 (N.map listOf).toArray := holds_of_block hgb (by rw [hzl, HSE.out]; simpa using r4)
    have hgl : gb < wr.heap.size := (Array.getElem?_eq_some_iff.1 hgb).1
    have cS := lib_SortS gb c3 (N.map listOf) wr hH hgl (by rw [hzl]; omega)
    rw [hzl] at cS
    go_wp2_with fail
    with_reducible refine cS.mono ?_
    clear cS
    rintro e w1 ⟨rfl, n1, os, hw1⟩
    have hown1 := ownsRow_sorted (base := w.heap.size) (n := n1) (os := os) (ss := N.map listOf) (ts := ((N.map listOf).mergeSort fun x y => decide (x ≤ y))) (by simp) hbase hgb (by rw [hzl]; exact r1) r2 r3
    rw [hzl, HSL.out] at hown1
    have hg1 : wr.grownBy w1 (some gb) := by rw [hw1]; exact grownBy_sorted _
    have hown1 : w1.ownsRow w.heap.size 9 1 (.slice (some ⟨gb, 0, none⟩) q c3) q ((sortL N).map Value.string) := by rw [hw1]; exact hown1
    clear hw1
    have HB1 := hid (HB.out.grown hg1 HB.out.size (fun k hk => by cases hk; exact hbase))
    have HOWN1 := hid hown1
    have hq0 : 0 < q ∨ q = 0 := by omega
    have cC := lib_CloneS gb q c3 (sortL N) w1 (by rw [HLN.out]; exact Nat.le_refl _) (by omega) (fun j hj => by
     have h := hown1.cellAt j (by rw [HLN.out] at hj; rw [Nat.mul_one]; exact hj)
     rw [Nat.zero_add, h]
     have : (sortL N).getD j ByteArray.empty = (sortL N)[j] := by simp [List.getD, hj]
     rw [this]
     simp [hj])
    have hgl1 := (hown1.lt gb rfl).2
    clear hown1
    go_wp2_with fail
    with_reducible refine cC.mono ?_
    clear cC
    rintro e w2 ⟨v2, rfl, hown2, hne2, hb2⟩
    rw [show (sortL N).take q = sortL N by rw [← HLN.out, List.take_length]] at hown2
    have HB2 := hid (HB1.out.trans (hb2.mono HB1.out.size))
    have HOWN2 : Hid (w2.ownsRow w.heap.size 9 1 (.slice (some ⟨gb, 0, none⟩) q c3) q ((sortL N).map Value.string)) := hid (own_later HOWN1.out hb2)
    have hsl : ((sortL N).map listOf).length = q := by rw [List.length_map]; exact HLN.out
    rcases hown2.2 with ⟨e2, h2⟩ | ⟨gc, capc, arc, e2, hbc, hgc, s1, s2, s3, s4⟩
    ·exact absurd e2 hne2
    ·obtain rfl := e2
     have hH2 : Holds encStr w2 gc 0 ((sortL N).map listOf).toArray := holds_of_block hgc (by rw [hsl, HSE.out]; simpa using s4)
     have hlt2 := (hown2.lt gc rfl)
     have hkc := compact_len N
     have HKC : Hid ((Lib.compact ((sortL N).map listOf)).length = (setOfL N).length) := hid (by rw [HLO.out]; exact hkc)
     have cK := lib_CompactS gc capc ((sortL N).map listOf) w2 hH2 (by rw [hsl]; omega) (by rw [hsl]; exact s1)
     rw [hsl] at cK
     clear hown2 hH2 hgc s3 s4 hkc
     go_wp2_with fail
     with_reducible refine cK.mono ?_
     clear cK
     rintro e w3 ⟨rfl, n3, hw3⟩
     have hg3 := grownBy_sorted (w := w2) (g := gc) (n := n3) (os := #[]) (Lib.compact ((sortL N).map listOf) ++ List.replicate (q - (Lib.compact ((sortL N).map listOf)).length) []).toArray
     rw [Go.Sort.grow_empty, ← hw3] at hg3
     clear hw3
     have hgo : gc ≠ gb := by omega
     have HB3 := hid (HB2.out.grown hg3 HB2.out.size (fun k hk => by have := Option.some.inj hk; have := HB1.out.size; omega))
     have HOWN3 : Hid (w3.ownsRow w.heap.size 9 1 (.slice (some ⟨gb, 0, none⟩) q c3) q ((sortL N).map Value.string)) := hid (HOWN2.out.kept hg3 (.inr (by intro e; simp [Value.ownBlock] at e; omega)))
     rw [HKC.out]
     have hlen : (setOfL N).length ≤ q := HLS.out
     have HD : Hid ((((setOfL N).length : Int) == (q : Int)) = decide N.Nodup) := hid (by
      rw [Bool.eq_iff_iff, decide_eq_true_iff, ← HSN.out, beq_iff_eq]
      omega)
     have HD2 : Hid (decide (((setOfL N).length : Int) = (q : Int)) = decide N.Nodup) := hid (by
      have h1 := HSN.out
      rw [Bool.eq_iff_iff, decide_eq_true_iff, decide_eq_true_iff, ← h1]
      omega)
     have HD3 : Hid (decide ((setOfL N).length = q) = decide N.Nodup) := hid (by
      have h1 := HSN.out
      rw [Bool.eq_iff_iff, decide_eq_true_iff, decide_eq_true_iff, ← h1])
     generalize (setOfL N).length = sl at *
     go_wp2
     go_ret2
     exact ⟨some ⟨gb, 0, none⟩, c3, by rw [HNL.out, ← HD.out]; rfl, by rw [HNL.out]; exact HOWN3.out, HB3.out⟩
end Go.Proofs.YthblaeleogdfpaaGreatDoor

namespace Go.Proofs.YthblaeleogdfpaaGreatDoor
open Go.RowKit Go.Shelf
theorem align_one (s1 s : ByteArray) (ka : Option Addr) (kn kc cb : Nat) (w : World) (h1 : w.cell? ⟨cb, 0, none⟩ = some (.string s)) :
  Calls Tryz.prog 52 #[.agg #[.string s1, .slice ka kn kc], .pointer (some ⟨cb, 0, none⟩)] w (Ret w (.bool (decide (s1 = s)))) := by
 have hrl := World.block_lt_of_cell? _ _ h1
 have n1 : (w.alloc (.cells #[.string s1, .slice ka kn kc] 30)).cell? ⟨cb, 0, none⟩ = some (.string s) := (World.cell?_alloc_lt _ _ _ hrl).trans h1
 have hb : Below w.heap.size w (w.alloc (.cells #[.string s1, .slice ka kn kc] 30)) := (Below.refl _ _).alloc (Nat.le_refl _) _
 have HB := hid hb
 clear h1 hb
 by_cases e : s1 = s
 ·subst e
  have hq : (s1.toList == s1.toList) = true := by simp
  rw [decide_eq_true rfl]
  go_enter Tryz.func52, Tryz.ntmps52
  go_wp2
  go_ret
  exact ⟨ret_bool (by simp), HB.out⟩
 ·have hne : (s1.toList == s.toList) = false := by
   cases h : (s1.toList == s.toList)
   ·rfl
   ·exact absurd (bytes_ext (by simpa using h)) e
  rw [decide_eq_false e]
  go_enter Tryz.func52, Tryz.ntmps52
  go_wp2
  go_ret
  exact ⟨ret_bool (by simp [hne]), HB.out⟩
theorem idxP_first : ∀ {l : List ByteArray} {s : ByteArray} {q : Nat}, q < l.length → (∀ j, j < q → l.getD j ⟨#[]⟩ ≠ s) → l.getD q ⟨#[]⟩ = s → idxP l s = q
 | x :: l, s, 0, _, _, h => by
  unfold idxP
  rw [if_pos (by simpa using h)]
 | x :: l, s, q + 1, hq, h1, h => by
  have h0 := h1 0 (by omega)
  unfold idxP
  rw [if_neg (by simpa using h0), idxP_first (q := q) (by simpa using hq) (fun j hj => by have := h1 (j + 1) (by omega); simpa using this) (by simpa using h)]
set_option maxRecDepth 100000 in
set_option maxHeartbeats 2000000 in
theorem lib_IndexFuncN (v : Value) (xs : List Co) (s : ByteArray) (cb B : Nat) (w : World) (hv : RdCo w (· < B) v xs) (hB : B ≤ w.heap.size) (hl : xs.length ≤ 1048576) (hm : s ∈ namesL xs) (h1 : w.cell? ⟨cb, 0, none⟩ = some (.string s)) :
  Calls Tryz.prog 51 #[v, .func (.func 52) #[] #[.pointer (some ⟨cb, 0, none⟩)]] w (Ret w (.int .i64 (idxN xs s : Int))) := by
 have hrl := World.block_lt_of_cell? _ _ h1
 have HCL := hid (fun W (hW : Below w.heap.size w W) s1 ka kn kc => align_one s1 s ka kn kc cb W ((hW.cell (p := ⟨cb, 0, none⟩) hrl).trans h1))
 obtain ⟨cv, ⟨a, c, rfl, hc, hmx, hr⟩, hkid⟩ := hv
 have HKD : Hid (∀ q, q < xs.length → ∃ a k m, cv q = .slice a k m) := hid (fun q hq => by
  obtain ⟨a, c, e, -⟩ := hkid q hq
  exact ⟨a, _, c, e⟩)
 have HR := hid hr
 have hnl : (namesL xs).length = xs.length := by simp [namesL]
 have HIX : Hid (∀ q, q < xs.length → (∀ j, j < q → (xs.getD j Co.z).name ≠ s) → (xs.getD q Co.z).name = s → idxN xs s = q) := hid (fun q hq h2 h3 => idxP_first (by omega) (fun j hj => by rw [namesL_getD]; exact h2 j hj) (by rw [namesL_getD]; exact h3))
 have HEX : Hid (¬ ∀ j, j < xs.length → (xs.getD j Co.z).name ≠ s) := hid (fun h2 => by
  have h3 := idxN_lt hm
  exact h2 _ h3 (idxN_name hm))
 generalize idxN xs s = R at *
 clear hr hkid h1 hm hnl
 generalize hn : xs.length = n at *
 clear hn
 unfold maxLen at hmx
 go_enter Tryz.func51, Tryz.ntmps51
 go_wp2_with fail
 go_loopg [8] n (fun N i wr => ∃ q : Nat, q + N = n ∧ i = .int .i64 (q : Int) ∧ Hid (Below w.heap.size w wr) ∧ Hid (∀ j, j < q → (xs.getD j Co.z).name ≠ s))
 case atStart => exact ⟨0, by omega, rfl, hid (Below.refl _ _), hid (fun j h => absurd h (by omega))⟩
 case round =>
  obtain ⟨q, hq, rfl, HB, HALL⟩ := hrel
  by_cases hp : 0 < gk
  ·obtain ⟨b, o, rfl, hb, hcell⟩ := HR.out (by omega)
   have hb' : b < B := hb
   have k0 : wr.cell? ⟨b, o + q * 2, none⟩ = some (.string (xs.getD q Co.z).name) := (HB.out.cell (p := ⟨b, o + q * 2, none⟩) (by show b < _; omega)).trans (hcell q (by omega) 0 (by omega))
   have k1 : wr.cell? ⟨b, o + q * 2 + 1, none⟩ = some (cv q) := (HB.out.cell (p := ⟨b, o + q * 2 + 1, none⟩) (by show b < _; omega)).trans (hcell q (by omega) 1 (by omega))
   obtain ⟨ka, kn, kc, hke⟩ := HKD.out q (by omega)
   rw [hke] at k1
   have HYQ := hid (HIX.out q (by omega) HALL.out)
   have HALL2 := hid (fun (h : (xs.getD q Co.z).name ≠ s) (j : Nat) (hj : j < q + 1) => (show (xs.getD j Co.z).name ≠ s from by
    rcases Nat.lt_or_ge j q with h3 | h3
    ·exact HALL.out j h3
    ·obtain rfl : j = q := by omega
     exact h))
   clear hcell hke
   generalize (xs.getD q Co.z).name = t at *
   have HC := hid (HCL.out wr HB.out t ka kn kc)
   have hwz := HB.out.size
   go_wp2_with fail
   with_reducible refine HC.out.mono ?_
   rintro e w1 ⟨rfl, hb1⟩
   have HB2 := hid (HB.out.trans (hb1.mono hwz))
   clear hb1 k0 k1
   by_cases e : t = s
   ·rw [decide_eq_true e]
    go_wp2
    go_ret
    exact ⟨ret_int (by rw [HYQ.out e]), HB2.out⟩
   ·rw [decide_eq_false e]
    have HAL := hid (HALL2.out e)
    clear e
    go_wp2
    go_roundg (gk - 1)
    case rel => exact ⟨q + 1, by omega, by go_num, HB2, HAL⟩
    case measure => omega
  ·obtain rfl : q = n := by omega
   exact absurd HALL.out HEX.out
set_option maxHeartbeats 1000000 in
theorem lib_EqualNe (a1 a2 : Option Addr) (n c m d : Nat) (w : World) (h : n ≠ m) (h1 : n ≤ 1048576) (h2 : m ≤ 1048576) :
  Calls Tryz.prog 50 #[.slice a1 n c, .slice a2 m d] w fun e w' => e = .returned (.bool false) ∧ w' = w := by
 have hne : ((n : Int) != (m : Int)) = true := by simp; omega
 have hne2 : ¬ ((n : Int) = (m : Int)) := by omega
 go_enter Tryz.func50, Tryz.ntmps50
 go_wp2
 go_ret
 exact ⟨rfl, rfl⟩
theorem lib_EqualAny (v u : Value) (X Y : List ByteArray) (b1 b2 : Nat) (w : World) (hv : w.ownsRow b1 9 1 v X.length (X.map Value.string)) (hu : w.ownsRow b2 9 1 u Y.length (Y.map Value.string)) (h1 : X.length ≤ 1048576) (h2 : Y.length ≤ 1048576) :
  Calls Tryz.prog 50 #[v, u] w (Quiet w (.bool (decide (X = Y)))) := by
 obtain ⟨a1, c1, rfl⟩ := own_slice hv
 obtain ⟨a2, c2, rfl⟩ := own_slice hu
 by_cases hne : X.length = Y.length
 ·by_cases h0 : X.length = 0
  ·rw [h0]
   have h3 := lib_EqualS0 a1 a2 c1 Y.length c2 w (by omega)
   rw [decide_eq_true (show Y.length = 0 by omega)] at h3
   rw [decide_eq_true (show X = Y by rw [List.eq_nil_of_length_eq_zero h0, List.eq_nil_of_length_eq_zero (l := Y) (by omega)])]
   exact h3.mono fun e w' ⟨h4, h5⟩ => ⟨h4, 0, h5⟩
  ·have hX : ∀ j, j < X.length → (w.cell? ⟨0, 0, none⟩ = w.cell? ⟨0, 0, none⟩) := fun _ _ => rfl
   rcases hv.2 with ⟨-, e⟩ | ⟨g1, p1, r1, e1, -⟩
   ·omega
   rcases hu.2 with ⟨-, e⟩ | ⟨g2, p2, r2, e2, -⟩
   ·omega
   obtain ⟨rfl, -, rfl⟩ := Value.slice.inj e1
   obtain ⟨rfl, -, rfl⟩ := Value.slice.inj e2
   have h3 := lib_EqualS g1 X.length c1 g2 Y.length c2 X Y w (Nat.le_refl _) (Nat.le_refl _) (by omega) (by omega)
    (fun j hj => by
     have h := hv.cellAt j (by rw [Nat.mul_one]; exact hj)
     rw [Nat.zero_add, h, smap_get hj]
     rfl)
    (fun j hj => by
     have h := hu.cellAt j (by rw [Nat.mul_one]; exact hj)
     rw [Nat.zero_add, h, smap_get hj]
     rfl)
   rw [List.take_length, List.take_length] at h3
   exact h3.mono fun e w' ⟨h4, k, h5⟩ => ⟨h4, k, h5⟩
 ·rw [decide_eq_false (fun e => hne (by rw [e]))]
  exact (lib_EqualNe a1 a2 X.length c1 Y.length c2 w hne h1 h2).mono fun e w' ⟨h4, h5⟩ => ⟨h4, 0, h5⟩
def intsV (R : List Nat) : List Value := R.map fun x => .int .i64 ((x : Nat) : Int)
theorem info_intE : (Tryz.prog.info? 3).map (fun i => (i.zero, i.size, i.bytes)) = some (some (.int .i64 0), 1, 8) := by kernel_rfl
def AlignP (w : World) (xs ys : List Co) (e : Ending) (w' : World) : Prop :=
  Below w.heap.size w w' ∧ ((¬ Aligns xs ys ∧ e = .returned (.tuple #[.slice none 0 0, .bool false])) ∨
    (Aligns xs ys ∧ ∃ a c, e = .returned (.tuple #[.slice a xs.length c, .bool true]) ∧ w'.ownsRow w.heap.size 3 1 (.slice a xs.length c) xs.length (intsV (alignL xs ys))))
theorem align_succ {xs ys : List Co} {q : Nat} (h : q < xs.length) : (alignL xs ys).take (q + 1) = (alignL xs ys).take q ++ [idxN ys (xs.getD q Co.z).name] := by
 have h2 : q < (alignL xs ys).length := by rw [alignL_len]; exact h
 rw [List.take_succ_eq_append_getElem h2]
 have h3 := alignL_at (b := ys) h
 have : (alignL xs ys).getD q 0 = (alignL xs ys)[q] := by simp [List.getD, h2]
 rw [← h3, this]
set_option maxRecDepth 100000 in
set_option maxHeartbeats 4000000 in
theorem copies_Align (i1 i2 : Int) (n1 n2 : ByteArray) (v u : Value) (xs ys : List Co) (B : Nat) (w : World) (hv : RdCo w (· < B) v xs) (hu : RdCo w (· < B) u ys) (hB : B ≤ w.heap.size) (hlx : xs.length ≤ 1048576) (hly : ys.length ≤ 1048576) :
  Calls Tryz.prog 14 #[.agg #[.int .i64 i1, .string n1, v], .agg #[.int .i64 i2, .string n2, u]] w (AlignP w xs ys) := by
 have HN1 := hid (fun W (hW : Below w.heap.size w W) => copies_Names i1 n1 v xs B W (hv.keep fun p (hp : p.block < B) => hW.cell (p := p) (by omega)) (Nat.le_trans hB hW.size) hlx)
 have HN2 := hid (fun W (hW : Below w.heap.size w W) => copies_Names i2 n2 u ys B W (hu.keep fun p (hp : p.block < B) => hW.cell (p := p) (by omega)) (Nat.le_trans hB hW.size) hly)
 have HIX := hid (fun W (hW : Below w.heap.size w W) s cb (hs : s ∈ namesL ys) (hc : W.cell? ⟨cb, 0, none⟩ = some (.string s)) => lib_IndexFuncN u ys s cb B W (hu.keep fun p (hp : p.block < B) => hW.cell (p := p) (by omega)) (Nat.le_trans hB hW.size) hly hs hc)
 have HNX : Hid ((namesL xs).length = xs.length) := hid (by simp [namesL])
 have HNY : Hid ((namesL ys).length = ys.length) := hid (by simp [namesL])
 have HAS := hid (fun q (h : q < xs.length) => align_succ (ys := ys) h)
 have HNM := hid (fun (ha : Aligns xs ys) q (h : q < xs.length) => ha.2.2.mem_iff.1 (name_mem h))
 have HAL := hid (alignL_len xs ys)
 have HEQ : Hid (sortL (namesL xs) = sortL (namesL ys) ↔ (namesL xs).Perm (namesL ys)) := hid sortL_eq
 have HLX := hid (sortL_len (namesL xs))
 have HLY := hid (sortL_len (namesL ys))
 have HIL : Hid (∀ q, idxN ys (xs.getD q Co.z).name ≤ 1048576) := hid (fun q => by
  have : ∀ (l : List ByteArray) (s : ByteArray), idxP l s ≤ l.length := by
   intro l s
   induction l with
   | nil => simp [idxP]
   | cons x l ih => unfold idxP; split <;> simp; omega
  have h2 := this (namesL ys) (xs.getD q Co.z).name
  have h3 : (namesL ys).length = ys.length := by simp [namesL]
  unfold idxN
  omega)
 obtain ⟨cv, ⟨a, c, rfl, hc, hm, hr⟩, hkid⟩ := hv
 obtain ⟨a2, c2, rfl⟩ : ∃ a2 c2, u = .slice a2 ys.length c2 := by
  obtain ⟨_, ⟨a2, c2, e, -⟩, -⟩ := hu
  exact ⟨a2, c2, e⟩
 have HKD : Hid (∀ q, q < xs.length → ∃ a k m, cv q = .slice a k m) := hid (fun q hq => by
  obtain ⟨a, c, e, -⟩ := hkid q hq
  exact ⟨a, _, c, e⟩)
 have HR := hid hr
 obtain ⟨i0, hi0, hz0, hz1, hz2⟩ := info_parts info_intE
 clear hr hkid hu
 have hx1 := (BoxN.new w #[.int .i64 i1, .string n1, .slice a xs.length c] 24).alloc (.cells #[.int .i64 i2, .string n2, .slice a2 ys.length c2] 24)
 have hx2 := BoxN.new (w.alloc (.cells #[.int .i64 i1, .string n1, .slice a xs.length c] 24)) #[.int .i64 i2, .string n2, .slice a2 ys.length c2] 24
 rw [World.size_alloc] at hx2
 have HB0 : Hid (Below w.heap.size w ((w.alloc (.cells #[.int .i64 i1, .string n1, .slice a xs.length c] 24)).alloc (.cells #[.int .i64 i2, .string n2, .slice a2 ys.length c2] 24))) := hid (((Below.refl _ w).alloc (Nat.le_refl _) _).alloc (by simp) _)
 have hz : ((w.alloc (.cells #[.int .i64 i1, .string n1, .slice a xs.length c] 24)).alloc (.cells #[.int .i64 i2, .string n2, .slice a2 ys.length c2] 24)).heap.size = w.heap.size + 2 := by simp
 unfold AlignP
 generalize hn : xs.length = n at *
 have HN := hid hn
 clear hn
 generalize hn' : ys.length = m at *
 have HM := hid hn'
 clear hn'
 unfold maxLen at hm
 have c0 := hx1.cell 0 rfl
 have c1 := hx1.cell 1 rfl
 have c2' := hx1.cell 2 rfl
 have HX1 := hid hx1
 have HX2 := hid hx2
 clear hx1 hx2
 go_enter Tryz.func14, Tryz.ntmps14
 generalize hLA : Code.loop _ = LA
 go_wp2_with fail
 with_reducible refine (HN1.out _ HB0.out).mono ?_
 clear c0 c1 c2'
 generalize (w.alloc (.cells #[.int .i64 i1, .string n1, .slice a n c] 24)).alloc (.cells #[.int .i64 i2, .string n2, .slice a2 m c2] 24) = W0 at *
 rintro e w1 ⟨xa, xc, rfl, hown1, hb1⟩
 rw [HNX.out] at hown1 ⊢
 have HX11 := hid (HX1.out.below hb1 HX1.out.lt)
 have HX21 := hid (HX2.out.below hb1 HX2.out.lt)
 have HB1 := hid (HB0.out.trans (hb1.mono HB0.out.size))
 have HOX := hid hown1
 have d0 := HX21.out.cell 0 rfl
 have d1 := HX21.out.cell 1 rfl
 have d2 := HX21.out.cell 2 rfl
 have hz1' := hb1.size
 clear hown1 hb1
 go_wp2_with fail
 with_reducible refine (HN2.out _ HB1.out).mono ?_
 rintro e w2 ⟨ya, yc, rfl, hown2, hb2⟩
 rw [HNY.out] at hown2 ⊢
 have HX12 := hid (HX11.out.below hb2 HX11.out.lt)
 have HX22 := hid (HX21.out.below hb2 HX21.out.lt)
 have HB2 := hid (HB1.out.trans (hb2.mono HB1.out.size))
 have HOX2 := hid (own_later HOX.out hb2)
 have HEC := hid (fun (hk1 : True) => lib_EqualAny (.slice xa n xc) (.slice ya m yc) (sortL (namesL xs)) (sortL (namesL ys)) W0.heap.size w1.heap.size w2 (by rw [HLX.out, HNX.out]; exact own_later HOX.out hb2) (by rw [HLY.out, HNY.out]; exact hown2) (by rw [HLX.out, HNX.out]; exact hlx) (by rw [HLY.out, HNY.out]; exact hly))
 have hz2' := hb2.size
 clear d0 d1 d2 hown2 hb2
 by_cases ho : (namesL xs).Nodup
 ·by_cases hp : (namesL ys).Nodup
  ·rw [decide_eq_true ho, decide_eq_true hp]
   go_wp2_with fail
   with_reducible refine (HEC.out trivial).mono ?_
   rintro e w3 ⟨rfl, k3, rfl⟩
   have HB3 := hid (below_drewN (n := k3) HB2.out)
   by_cases hq : (namesL xs).Perm (namesL ys)
   ·have ha : Aligns xs ys := ⟨ho, hp, hq⟩
    have HA := hid ha
    rw [decide_eq_true (HEQ.out.2 hq)]
    have c2' := HX12.out.cell 2 rfl
    clear ho hp hq ha
    go_wp2_with fail
    clear c2'
    subst hLA
    have HX32 := hid (HX22.out.drewN k3)
    have hz3 : (w2.drewN k3).heap.size = w2.heap.size := rfl
    have HBB := hid (Below.refl (w2.drewN k3).heap.size (w2.drewN k3))
    have hxbl := HX32.out.lt
    generalize w2.drewN k3 = w3 at *
    go_loopg [10, 38] n (fun N v i wr => ∃ q : Nat, q + N = n ∧ i = .int .i64 (q : Int) ∧ Hid (Below w3.heap.size w3 wr ∧ wr.ownsRow w3.heap.size 3 1 v ((alignL xs ys).take q).length (intsV ((alignL xs ys).take q))))
    case atStart => exact ⟨0, by omega, rfl, hid ⟨HBB.out, World.ownsRow_nil _ _ _ _⟩⟩
    case round =>
     obtain ⟨q, hq, rfl, HST⟩ := hrel
     obtain ⟨a3, c3, rfl⟩ := own_slice HST.out.2
     have hql : ((alignL xs ys).take q).length = q := by rw [List.length_take, HAL.out]; omega
     have HQL := hid hql
     rw [hql] at HST ⊢
     clear hql
     by_cases hp : 0 < gk
     ·obtain ⟨b, o, rfl, hb, hcell⟩ := HR.out (by omega)
      have hb' : b < B := hb
      have hwz := HST.out.1.size
      have HBW := hid (HB3.out.trans (HST.out.1.mono HB3.out.size))
      have k0 : wr.cell? ⟨b, o + q * 2, none⟩ = some (.string (xs.getD q Co.z).name) := (HBW.out.cell (p := ⟨b, o + q * 2, none⟩) (by show b < _; omega)).trans (hcell q (by omega) 0 (by omega))
      have k1 : wr.cell? ⟨b, o + q * 2 + 1, none⟩ = some (cv q) := (HBW.out.cell (p := ⟨b, o + q * 2 + 1, none⟩) (by show b < _; omega)).trans (hcell q (by omega) 1 (by omega))
      obtain ⟨ka, kn, kc, hke⟩ := HKD.out q (by omega)
      rw [hke] at k1
      clear hke hcell
      have HS1 := hid (HAS.out q (by omega))
      have HMQ := hid (HNM.out HA.out q (by omega))
      have hil := HIL.out q
      generalize (xs.getD q Co.z).name = s at *
      generalize hcur : (alignL xs ys).take q = cur at *
      clear hcur
      have HBA := hid (HBW.out.alloc HBW.out.size (.cells #[.string s, .slice ka kn kc] 30))
      have HB3A := hid (HST.out.1.alloc hwz (.cells #[.string s, .slice ka kn kc] 30))
      have HOA := hid (HST.out.2.alloc (.cells #[.string s, .slice ka kn kc] 30))
      have hza : (wr.alloc (.cells #[.string s, .slice ka kn kc] 30)).heap.size = wr.heap.size + 1 := by simp
      have hcb := BoxN.new wr #[.string s, .slice ka kn kc] 30
      have HCI := hid (HIX.out _ HBA.out s wr.heap.size HMQ.out (hcb.cell 0 rfl))
      have hxa := (HX32.out.below HST.out.1 hxbl).alloc (.cells #[.string s, .slice ka kn kc] 30)
      have x2 := hxa.cell 2 rfl
      clear hcb hxa
      generalize idxN ys s = ix at *
      go_wp2_with fail
      with_reducible refine HCI.out.mono ?_
      clear x2 k0 k1 HCI
      generalize wr.alloc (.cells #[.string s, .slice ka kn kc] 30) = W4 at *
      rintro e w5 ⟨rfl, hb5⟩
      have HB5 := hid (HBA.out.trans (hb5.mono HBA.out.size))
      have HB35 := hid (HB3A.out.trans (hb5.mono (by omega)))
      have HO5 := hid (own_later HOA.out hb5)
      have hz5 := hb5.size
      clear hb5
      go_wp2_with (at_builtin; refine wpList_append_form _ rfl _ _ 25 25 rfl w3.heap.size 3 3 i0 (.int .i64 0) 1 8 Tryz.underlying25 Tryz.underlying25 hi0 hz0 hz1 hz2 rfl (by decide) (.slice a3 q c3) q (intsV cur) rfl (HO5.out.alloc _) (some ⟨_, 0, none⟩) 1 1 [.int .i64 (ix : Int)] rfl rfl (fun _ => ⟨_, rfl, cell_one_at _ _ (by simp)⟩) (by intro u hu; simp at hu; subst hu; rfl) (by omega) (by unfold maxLen; omega) (by omega) (by simp; omega) ?_; intro p9 cap9 w9 hown9 hg9 hat9 hlt9; have HOWN9 := hid hown9; have HG9 := hid ((World.grownBy_alloc _ _ _).trans hg9); have HAT9 := hid hat9; clear hown9 hg9 hat9)
      have HB9 := hid (HB35.out.grown HG9.out HB35.out.size (fun k hk => (HO5.out.lt k hk).1))
      go_roundg (gk - 1)
      case rel => exact ⟨q + 1, by omega, by go_num, hid ⟨HB9.out, by rw [HS1.out, List.length_append, List.length_singleton, HQL.out]; have := HOWN9.out; rw [show intsV cur ++ [.int .i64 (ix : Int)] = intsV (cur ++ [ix]) by simp [intsV]] at this; exact this⟩⟩
      case measure => omega
     ·obtain rfl : q = n := by omega
      have HTA : Hid ((alignL xs ys).take q = alignL xs ys) := hid (by rw [← HAL.out, List.take_length])
      rw [HTA.out] at HST
      go_wp2
      go_ret2
      exact ⟨HB3.out.trans (HST.out.1.mono HB3.out.size), .inr ⟨HA.out, a3, c3, rfl, own_base HST.out.2 HB3.out.size⟩⟩
   ·have ha : ¬ Aligns xs ys := fun h => hq h.2.2
    rw [decide_eq_false (fun e => hq (HEQ.out.1 e))]
    go_wp2
    go_ret2
    exact ⟨HB3.out, .inl ⟨ha, rfl⟩⟩
  ·have ha : ¬ Aligns xs ys := fun h => hp h.2.1
   rw [decide_eq_true ho, decide_eq_false hp]
   go_wp2
   go_ret2
   exact ⟨HB2.out, .inl ⟨ha, rfl⟩⟩
 ·have ha : ¬ Aligns xs ys := fun h => ho h.1
  rw [decide_eq_false ho]
  go_wp2
  go_ret2
  exact ⟨HB2.out, .inl ⟨ha, rfl⟩⟩
end Go.Proofs.YthblaeleogdfpaaGreatDoor

namespace Go.Proofs
open Go.Shelf
def Tryz.layItoa_ren : Go.Shelf.Ren := ⟨fun | 171 => 94 | 243 => 140 | 246 => 198 | 283 => 258 | 284 => 259 | 285 => 260 | 286 => 261 | 129 => 151 | 317 => 284 | 318 => 285 | 319 => 286 | 320 => 287 | 337 => 294 | 338 => 295 | n => n, fun | 3 => 3 | 9 => 9 | 2 => 2 | 4 => 4 | 171 => 266 | 0 => 0 | 53 => 194 | 37 => 61 | 5 => 5 | 173 => 268 | 212 => 293 | 51 => 157 | 20 => 20 | 213 => 294 | 46 => 143 | 232 => 300 | 233 => 301 | n => n, fun | 17 => 3 | 18 => 5 | 19 => 6 | n => n⟩
end Go.Proofs
