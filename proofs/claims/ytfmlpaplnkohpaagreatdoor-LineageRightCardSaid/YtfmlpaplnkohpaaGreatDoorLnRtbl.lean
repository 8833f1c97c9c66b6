/- Contract of lineage.Roots. Plain: chapter 39's example. Contract of law39's ints at equal lists. Contract of law39's awake, out of chain's. -/
import Derived.Deep.Cut
import Derived.Shelf.SortM.SortNone
import Derived.Sort.OwnSortedInts
import Derived.Test.YtfmlpaplnkohpaaGreatDoorLnRtbk
import Derived.Test.YtfmlpaplnkohpaaGreatDoorLnRtbh
import Derived.Test.YtfmlpaplnkohpaaGreatDoorLnRtaf
import Derived.Test.YtfmlpaplnkohpaaGreatDoorLnRtbj
set_option linter.unusedVariables false
set_option linter.unusedSimpArgs false
namespace Go.Proofs.YtfmlpaplnkohpaaGreatDoor
open Go.RowKit Go.Shelf

/-- slices.Sort at numbers in order: they stay -/
theorem lib_SortZ (zs : List Int) (base : Nat) (v : Value) (w : World) (h : w.ownsRow base 3 1 v zs.length (zs.map (Value.int .i64))) (hs : zs.Pairwise fun a b => a < b) (hm : zs.length ≤ 1048576) :
    Calls Tryz.prog 59 #[v] w fun e w' => e = .returned (.tuple #[]) ∧ w'.ownsRow base 3 1 v zs.length (zs.map (Value.int .i64)) ∧ (∃ row, w.grownBy w' row ∧ ∀ k, row = some k → base ≤ k) := by
  rcases Nat.eq_zero_or_pos zs.length with h0 | h0
  · rcases h.2 with ⟨e1, -⟩ | ⟨blk, cap, cur, e1, -⟩
    · subst e1
      refine (AnyM.slices_Sort_int_none Tryz.sortInt none 0 w).mono ?_
      rintro e w' ⟨he, rfl⟩
      exact ⟨he, h, none, ⟨rfl, rfl, rfl, Nat.le_refl _, fun _ _ _ => rfl⟩, fun k hk => by cases hk⟩
    · have e2 := e1
      rw [h0] at e2
      rw [e2]
      refine (AnyM.slices_Sort_int_none Tryz.sortInt (some ⟨blk, 0, none⟩) cap w).mono ?_
      rintro e w' ⟨he, rfl⟩
      exact ⟨he, by rw [← e2]; exact h, none, ⟨rfl, rfl, rfl, Nat.le_refl _, fun _ _ _ => rfl⟩, fun k hk => by cases hk⟩
  · rcases h.2 with ⟨e1, h1⟩ | ⟨blk, cap, cur, e1, hb, hheap, hcn, hcm, hsz, ht⟩
    · omega
    · subst e1
      rw [Nat.mul_one] at ht
      have hH := holds_of_blockI hheap ht
      have hblk : blk < w.heap.size := (Array.getElem?_eq_some_iff.1 hheap).1
      have hme : zs.mergeSort (fun x y => decide (x ≤ y)) = zs := by
        refine perm_same (fun x : Int => x) (List.mergeSort_perm _ _) hs ?_
        have := List.pairwise_mergeSort (le := fun x y : Int => decide (x ≤ y)) (fun a b c h1 h2 => by simp at *; omega) (fun a b => by simp; omega) zs
        exact this.imp fun h => by simpa using h
      refine (AnyM.slices_Sort_int Tryz.sortInt blk 0 cap zs w hH hblk (by omega)).mono ?_
      rintro e w' ⟨he, n, os, rfl⟩
      rw [hme]
      exact ⟨he, ownsRow_sortedI (n := n) (os := os) (ss := zs) rfl hb hheap hcn hcm hsz, some blk, grownBy_sortedI _, fun k hk => by cases hk; exact hb⟩

def rootI (xs : List Lk) (t : Ta) : Option Int := if (toL xs t.id).isNone = true then some t.id else none
/-- the tables to which no link leads -/
def rootIds (ts : List Ta) (xs : List Lk) : List Int := ts.filterMap (rootI xs)
theorem roots_asc (xs : List Lk) : ∀ {ts : List Ta} (_ : ts.Pairwise fun a b => a.id < b.id), (rootIds ts xs).Pairwise fun a b => a < b
  | [], _ => by simp [rootIds]
  | t :: ts, h => by
    obtain ⟨h1, h2⟩ := List.pairwise_cons.1 h
    have h3 := roots_asc xs h2
    unfold rootIds at *
    rw [List.filterMap_cons]
    unfold rootI at *
    by_cases h4 : (toL xs t.id).isNone = true
    · rw [if_pos h4]
      refine List.pairwise_cons.2 ⟨fun i hi => ?_, h3⟩
      obtain ⟨u, hu, e⟩ := List.mem_filterMap.1 hi
      have := h1 u hu
      split at e
      · have := Option.some.inj e
        omega
      · cases e
    · rw [if_neg h4]
      exact h3

def RootsP (w : World) (ts : List Ta) (xs : List Lk) (e : Ending) (w' : World) : Prop :=
  ∃ z, e = .returned z ∧ RdKs w' (News w w') z (rootIds ts xs) ∧ Below w.heap.size w w'
set_option maxRecDepth 100000 in
set_option maxHeartbeats 4000000 in
theorem lin_Roots (ts : List Ta) (xs : List Lk) (v u : Value) (B : Nat) (w : World) (h : ts.Pairwise fun a b => a.id < b.id) (hl : ts.length ≤ 1024) (hlx : xs.length ≤ 1048570) (hv : RdTa w (· < B) v ts) (hu : RdLk w (· < B) u xs) (hB : B ≤ w.heap.size) :
    Calls Tryz.prog 30 #[v, u] w (RootsP w ts xs) := by
  have HTO := hid (fun id W (hW : Below w.heap.size w W) => lin_to u xs B id W (by omega) (hu.keep fun p (hp : p.block < B) => hW.cell (p := p) (by omega)) (Nat.le_trans hB hW.size))
  obtain ⟨ua, uc, rfl, -, -⟩ := rdLk_len hu
  obtain ⟨tv, ⟨a, c, rfl, hcc, hcm, hr⟩, hco⟩ := hv
  have HR := hid hr
  have HCO := hid (fun q (hq : q < ts.length) => (by obtain ⟨cv, ⟨a, c, e, -⟩, -⟩ := hco q hq; exact ⟨a, _, c, e⟩ : ∃ a n c, tv q = .slice a n c))
  have HASC := hid (roots_asc xs h)
  have HSN := hid (fun q (hq : q < ts.length) => @fm_snoc _ (rootI xs) ts q hq)
  have HALL : Hid ((ts.take ts.length).filterMap (rootI xs) = rootIds ts xs) := hid (by rw [List.take_length]; rfl)
  have HLEN := hid (fun q => (by have h1 := List.length_filterMap_le (rootI xs) (ts.take q); have h2 := List.length_take_le q ts; omega : ((ts.take q).filterMap (rootI xs)).length ≤ q))
  clear hr hco hu h
  obtain ⟨i0, hi, hz0, hz1, hz2⟩ := info_parts info_int0
  generalize hL : ts.length = L at *
  have HL := hid hL
  clear hL
  generalize xs.length = M at *
  go_enter Tryz.func30, Tryz.ntmps30
  go_wp2_with fail
  go_loopg [12, 5] L (fun N i s5 wr => ∃ (q : Nat), i = .int .i64 (q : Int) ∧ q + N = L ∧ Hid (Below w.heap.size w wr) ∧ Hid (wr.ownsRow w.heap.size 3 1 s5 ((ts.take q).filterMap (rootI xs)).length (((ts.take q).filterMap (rootI xs)).map (Value.int .i64))))
  case atStart => exact ⟨0, rfl, by omega, hid (Below.refl _ _), hid (World.ownsRow_nil _ _ _ _)⟩
  case round =>
    obtain ⟨q, rfl, hq, HB, HOW⟩ := hrel
    have hwz := HB.out.size
    have hlq := HLEN.out q
    obtain ⟨oa, oc, hsl⟩ := own_slice HOW.out
    subst hsl
    by_cases hp : 0 < gk
    · have hqL : q < L := by omega
      obtain ⟨b, o, rfl, hb, hcell⟩ := HR.out (by omega)
      have hbw : b < w.heap.size := by have : b < B := hb; omega
      have k0 := (HB.out.cell (p := ⟨b, o + q * 3 + 0, none⟩) hbw).trans (hcell q hqL 0 (by omega))
      have k1 := (HB.out.cell (p := ⟨b, o + q * 3 + 1, none⟩) hbw).trans (hcell q hqL 1 (by omega))
      have k2 := (HB.out.cell (p := ⟨b, o + q * 3 + 2, none⟩) hbw).trans (hcell q hqL 2 (by omega))
      simp only [taF, three, Nat.add_zero] at k0 k1 k2
      obtain ⟨ca, cn, ck, hcq⟩ := HCO.out q hqL
      rw [hcq] at k2
      have HSNq := hid (HSN.out q hqL)
      clear hcell hcq
      generalize ts.getD q Ta.z = t at *
      have HRI : Hid (rootI xs t = if (toL xs t.id).isNone = true then some t.id else none) := hid rfl
      obtain ⟨id, nm, xt⟩ := t
      simp only at k0 k1 HRI
      have hbx := BoxN.new wr #[.int .i64 id, .string nm, .slice ca cn ck] 29
      have hsx := (Below.refl wr.heap.size wr).alloc (Nat.le_refl _) (.cells #[.int .i64 id, .string nm, .slice ca cn ck] 29)
      obtain ⟨W2, hW2⟩ : ∃ W, W = wr.alloc (.cells #[.int .i64 id, .string nm, .slice ca cn ck] 29) := ⟨_, rfl⟩
      rw [← hW2] at hbx hsx
      have x0 := hbx.cell 0 rfl
      have HBX := hid hbx
      have HSX := hid hsx
      have hbl := hbx.lt
      have HB2 := hid (HB.out.trans (hsx.mono hwz))
      have HTQ := hid (HTO.out id W2 HB2.out)
      unfold ToP at HTQ
      generalize toL xs id = T at *
      rw [hW2] at x0
      clear hbx hsx
      go_wp2_with fail
      rw [← hW2]
      clear hW2 x0 k0 k1 k2
      with_reducible refine HTQ.out.mono ?_
      rintro e w5 ⟨hb5, hm⟩
      have hw5 := hb5.size
      have HB5 := hid (HB2.out.trans (hb5.mono HB2.out.size))
      have HS5 := hid (HSX.out.trans (hb5.mono (Nat.le_trans (Nat.le_of_lt (by have := hbl; omega : wr.heap.size < W2.heap.size)) (Nat.le_refl _))))
      have HBX5 := hid (HBX.out.below hb5 hbl)
      clear hb5 HTQ
      cases T with
      | none =>
        have he : e = .returned (.tuple #[.agg #[.int .i64 0, .int .i64 0, .slice none 0 0], .bool false]) := hm
        subst he
        have HRI2 : Hid (rootI xs ⟨id, nm, xt⟩ = some id) := HRI
        have HB6 := hid (HB5.out.alloc HB5.out.size (.cells #[.int .i64 0, .int .i64 0, .slice none 0 0] 66))
        have HBX6 := hid (HBX5.out.alloc (.cells #[.int .i64 0, .int .i64 0, .slice none 0 0] 66))
        have HO6 := hid (((own_later HOW.out HS5.out).alloc (.cells #[.int .i64 0, .int .i64 0, .slice none 0 0] 66)).alloc (.cells #[.int .i64 id] 3))
        have hn7 := BoxN.new (w5.alloc (.cells #[.int .i64 0, .int .i64 0, .slice none 0 0] 66)) #[.int .i64 id] 3
        rw [World.size_alloc] at hn7
        have HN7 := hid hn7
        have HB7 := hid (HB6.out.alloc HB6.out.size (.cells #[.int .i64 id] 3))
        have hw7 := HB7.out.size
        have hol := HO6.out.lt
        have x0 := HBX6.out.cell 0 rfl
        generalize hnl : ((ts.take q).filterMap (rootI xs)).length = nl at *
        have HNL := hid hnl
        clear hnl hn7 hm
        go_wp2_with (at_builtin; refine wpList_append_form _ rfl _ _ 22 22 rfl w.heap.size 3 3 i0 (.int .i64 0) 1 8 Tryz.underlying22 Tryz.underlying22 hi hz0 hz1 hz2 rfl (by decide) (.slice oa nl oc) nl _ rfl HO6.out (some ⟨_, 0, none⟩) 1 1 [.int .i64 id] rfl rfl (fun _ => ⟨_, rfl, World.news_of_block HN7.out⟩) (by intro u hu; simp at hu; subst hu; rfl) (by omega) (by unfold maxLen; omega) (by omega) (by simp; omega) ?_; intro p8 cap8 w8 hown8 hg8 hat8 hlt8; have HG8 := hid hg8; have HOWN8 := hid hown8; clear hown8 hg8 hat8)
        go_wp2
        have hg8 := HG8.out
        have HB9 : Hid (Below w.heap.size w w8) := hid (HB7.out.trans ⟨hg8.os, hg8.tape, hg8.output, hg8.size, fun k hk => hg8.block k (Nat.lt_of_lt_of_le hk HB7.out.size) (fun e => by have := (hol k e.symm).1; omega)⟩)
        go_roundg (gk - 1)
        case rel => exact ⟨q + 1, by go_num, by omega, HB9, hid (by
          rw [HSNq.out, HRI2.out]
          simp only [Option.toList_some, List.length_append, List.length_singleton, List.map_append, List.map_cons, List.map_nil]
          rw [HNL.out]
          exact HOWN8.out)⟩
        case measure => omega
      | some y =>
        obtain ⟨ya, yc, he, -⟩ : ∃ a c, e = .returned (.tuple #[.agg #[.int .i64 y.src, .int .i64 y.dst, .slice a y.ops.length c], .bool true]) ∧ RdPo W2 (· < B) (.slice a y.ops.length c) y.ops := hm
        subst he
        have HRI2 : Hid (rootI xs ⟨id, nm, xt⟩ = none) := HRI
        obtain ⟨ys, yd, yo⟩ := y
        simp only
        generalize yo.length = l at *
        have HS6 := hid (HS5.out.trans (((Below.refl w5.heap.size w5).alloc (Nat.le_refl _) (.cells #[.int .i64 ys, .int .i64 yd, .slice ya l yc] 66)).mono HS5.out.size))
        go_wp2
        go_roundg (gk - 1)
        case rel => exact ⟨q + 1, by go_num, by omega, hid (HB.out.trans (HS6.out.mono hwz)), hid (by
          rw [HSNq.out, HRI2.out]
          simp only [Option.toList_none, List.append_nil]
          exact own_later HOW.out HS6.out)⟩
        case measure => omega
    · obtain rfl : gk = 0 := by omega
      obtain rfl : L = q := by omega
      have HOWX : Hid (wr.ownsRow w.heap.size 3 1 (.slice oa ((ts.take L).filterMap (rootI xs)).length oc) ((ts.take L).filterMap (rootI xs)).length (((ts.take L).filterMap (rootI xs)).map (Value.int .i64))) := HOW
      rw [HALL.out] at HOWX hlq
      rw [HALL.out]
      have HSO := hid (lib_SortZ (rootIds ts xs) w.heap.size _ wr HOWX.out HASC.out (by omega))
      unfold RootsP
      generalize hRE : rootIds ts xs = R at *
      have HRE := hid hRE
      clear hRE
      generalize hrl : R.length = rl at *
      have HRL := hid hrl
      clear hrl HOW HOWX
      go_wp2_with fail
      with_reducible refine HSO.out.mono ?_
      rintro e w7 ⟨rfl, hown, row, hg, hrow⟩
      have HB7 : Hid (Below w.heap.size w w7) := hid (HB.out.trans ⟨hg.os, hg.tape, hg.output, hg.size, fun k hk => hg.block k (by omega) (fun e => by have := hrow k e.symm; omega)⟩)
      have hks : RdKs w7 (News w w7) (.slice oa rl oc) R := by
        have h1 := hown
        rw [← HRL.out] at h1 ⊢
        have h2 : w7.ownsRow w.heap.size 3 1 (.slice oa R.length oc) R.length (flatK 1 R.length (zF R)) := by rw [← z_flat]; exact h1
        exact (inK_of_owns h2).more fun b hb => h2.lt b hb
      have HKS := hid hks
      clear hg hown hrow hks
      go_wp2
      go_ret
      exact ⟨_, rfl, by rw [HRE.out]; exact HKS.out, HB7.out⟩
end Go.Proofs.YtfmlpaplnkohpaaGreatDoor

namespace Go.Proofs.YtfmlpaplnkohpaaGreatDoor
open Go.RowKit

theorem chain_links : (linksL chainL).map (fun x => (x.src, x.dst)) = [(1, 2), (2, 3)] := by decide +kernel
theorem chain_anc : ancL (linksL chainL) 3 [3] = [3, 2, 1] := by decide +kernel
theorem chain_roots : rootIds chainL (linksL chainL) = [1] := by decide +kernel
theorem chain_cols : (∀ x ∈ [(⟨⟨#[97]⟩, ksL 4⟩ : Co), ⟨⟨#[98]⟩, nulL⟩], TextOk 1024 x.name ∧ x.cells.length = 4 ∧ ∀ c ∈ x.cells, CellOk c) ∧ (∀ x ∈ chC 3, TextOk 1024 x.name ∧ x.cells.length = 3 ∧ ∀ c ∈ x.cells, CellOk c) ∧ (∀ x ∈ chC 1, TextOk 1024 x.name ∧ x.cells.length = 1 ∧ ∀ c ∈ x.cells, CellOk c) := by
  unfold CellOk TextOk
  decide +kernel
theorem chain_text : TextOk 1024 ⟨#[]⟩ := by unfold TextOk; decide +kernel
theorem chain_few : ∀ t ∈ chainL, Few t.cols := by
  obtain ⟨h1, h2, h3⟩ := chain_cols
  intro t ht
  simp only [chainL, List.mem_cons, List.not_mem_nil, or_false] at ht
  rcases ht with rfl | rfl | rfl
  · exact ⟨4, by omega, h1⟩
  · exact ⟨3, by omega, h2⟩
  · exact ⟨1, by omega, h3⟩
theorem chain_list : ListV chainL := by
  obtain ⟨h1, h2, h3⟩ := chain_cols
  refine ⟨by decide, fun t ht => ?_, by decide⟩
  simp only [chainL, List.mem_cons, List.not_mem_nil, or_false] at ht
  rcases ht with rfl | rfl | rfl
  · exact ⟨by decide, by decide, chain_text, by decide, 4, by omega, h1⟩
  · exact ⟨by decide, by decide, chain_text, by decide, 3, by omega, h2⟩
  · exact ⟨by decide, by decide, chain_text, by decide, 1, by omega, h3⟩
/-- links of valid tables are right -/
theorem links_right {ts : List Ta} (h : ListV ts) (hf : ∀ t ∈ ts, Few t.cols) : ∀ x ∈ linksL ts, RightL ts x := fun x hx => by
  obtain ⟨a, ha, b, hb, e1, e2, e3, e4, e5, e6⟩ := link_right hx h.2.1
  exact ⟨a, ha, b, hb, hf a ha, e1, e2, e3, e4, e5, e6⟩

set_option maxRecDepth 100000 in
set_option maxHeartbeats 1000000 in
theorem law39_ints (u v : Value) (ks : List Int) (B : Nat) (w : World) (hu : RdKs w (· < B) u ks) (hv : RdKs w (· < B) v ks) (hB : B ≤ w.heap.size) :
    Calls Tryz.prog 34 #[u, v] w (Ret w (.bool true)) := by
  have hmx := rdKs_max hu
  have HU := hid hu
  have HV := hid hv
  obtain ⟨ua, uc, rfl, -⟩ := hu
  obtain ⟨va, vc, rfl, -⟩ := hv
  generalize hl : ks.length = L at *
  have HL := hid hl
  clear hl
  go_enter Tryz.func34, Tryz.ntmps34
  go_wp2_with fail
  go_loopg [14] L (fun N i wr => ∃ q : Nat, q + N = L ∧ i = .int .i64 (q : Int) ∧ Hid (Below w.heap.size w wr))
  case atStart => exact ⟨0, by omega, rfl, hid (Below.refl _ _)⟩
  case round =>
    obtain ⟨q, hq, rfl, HB⟩ := hrel
    by_cases hp : 0 < gk
    · have hqL : q < L := by omega
      obtain ⟨b, o, c3, e3, hb, h5⟩ := ks_at (HU.out.keep (w' := wr) fun p (hp : p.block < B) => HB.out.cell (p := p) (by omega)) (k := q) (by rw [HL.out]; exact hqL)
      obtain ⟨b2, o2, c4, e4, hb2, h6⟩ := ks_at (HV.out.keep (w' := wr) fun p (hp : p.block < B) => HB.out.cell (p := p) (by omega)) (k := q) (by rw [HL.out]; exact hqL)
      rw [HL.out] at e3 e4
      obtain ⟨rfl, -, rfl⟩ := Value.slice.inj e3
      obtain ⟨rfl, -, rfl⟩ := Value.slice.inj e4
      have hqi : (q : Int) < (L : Int) := by omega
      clear e3 e4 hb hb2
      generalize ks.getD q 0 = x at *
      have hxx : (x != x) = false := by simp
      go_wp2
      go_roundg (gk - 1)
      case rel => exact ⟨q + 1, by omega, by go_num, HB⟩
      case measure => omega
    · obtain rfl : gk = 0 := by omega
      obtain rfl : L = q := by omega
      go_wp2
      go_ret
      exact ⟨rfl, HB.out⟩
end Go.Proofs.YtfmlpaplnkohpaaGreatDoor

namespace Go.Proofs.YtfmlpaplnkohpaaGreatDoor
open Go.RowKit

theorem rdTa_next {w w' : World} {v : Value} {ts : List Ta} (h : RdTa w (· < w.heap.size) v ts) (hb : Below w.heap.size w w') : RdTa w' (· < w'.heap.size) v ts :=
  (h.keep fun p (hp : p.block < w.heap.size) => hb.cell (p := p) hp).more fun b (hb' : b < w.heap.size) => Nat.lt_of_lt_of_le hb' hb.size
theorem rdKs_one {w : World} {b n : Nat} {t : TypeId} {zs : List Int} (h : BoxN w b t (zs.map (Value.int .i64)).toArray) (hn : n = zs.length) (hm : n ≤ 1048576) : RdKs w (· < w.heap.size) (.slice (some ⟨b, 0, none⟩) n n) zs := by
  subst hn
  refine ⟨_, _, rfl, Nat.le_refl _, by unfold maxLen; omega, fun hp => ⟨b, 0, rfl, h.lt, fun i hi j hj => ?_⟩⟩
  obtain rfl : j = 0 := by omega
  rw [show 0 + i * 1 + 0 = i by omega]
  exact h.cell i (by simp [zF, List.getD, hi])

set_option maxRecDepth 100000 in
set_option maxHeartbeats 4000000 in
theorem law39_awake_of (hch : ∀ W, Calls Tryz.prog 49 #[] W (ChainP W)) (w : World) (hT : Tabs w) : Calls Tryz.prog 26 #[] w (Ret w (.bool true)) := by
  have HT := hid hT
  have HCH := hid (hch w)
  clear hT hch
  have hll : (linksL chainL).length = 2 := by have := congrArg List.length chain_links; simpa using this
  have hs0 : ((linksL chainL).getD 0 Lk.z).src = 1 := by
    have h1 := congrArg (fun l => (l.getD 0 (0, 0)).1) chain_links
    have h2 : 0 < (linksL chainL).length := by omega
    simpa [List.getD, h2] using h1
  have hs1 : ((linksL chainL).getD 1 Lk.z).src = 2 := by
    have h1 := congrArg (fun l => (l.getD 1 (0, 0)).1) chain_links
    have h2 : 1 < (linksL chainL).length := by omega
    simpa [List.getD, h2] using h1
  have HLR := hid (links_right chain_list chain_few)
  have HLD := hid (links_dst chain_list.2.2)
  have hanc : (ancL (linksL chainL) 3 [3]).drop 1 = [2, 1] := by rw [chain_anc]; rfl
  have HANC := hid hanc
  have HROO := hid chain_roots
  clear hanc
  go_enter Tryz.func26, Tryz.ntmps26
  go_wp2_with fail
  with_reducible refine HCH.out.mono ?_
  rintro e w1 ⟨v, rfl, hv, hb1⟩
  have HB1 := hid hb1
  have HV1 := hid (hv.more (S' := (· < w1.heap.size)) fun b hb => hb.2)
  have HLI := hid (lin_Links chainL v w1.heap.size w1 chain_list chain_few HV1.out (Nat.le_refl _) (HT.out.below hb1))
  obtain ⟨tv, ⟨va, vc, rfl, -⟩, -⟩ := hv
  clear hb1
  go_wp2_with fail
  with_reducible refine HLI.out.mono ?_
  rintro e w2 ⟨u, rfl, hu, hb2⟩
  have HB2 := hid (HB1.out.trans (hb2.mono HB1.out.size))
  have HV2 := hid (rdTa_next HV1.out hb2)
  have HU2 := hid (hu.more (S' := (· < w2.heap.size)) fun b hb => hb.2)
  have HAN := hid (lin_Ancestors u (linksL chainL) w2.heap.size 3 3 w2 (by omega) (by omega) HU2.out (Nat.le_refl _))
  unfold AncP at HAN
  rw [HANC.out] at HAN
  obtain ⟨ua, uc, rfl, -, -⟩ := rdLk_len hu
  rw [hll] at HU2 HAN ⊢
  clear hu hb2 HLI
  go_wp2_with fail
  with_reducible refine HAN.out.mono ?_
  rintro e w3 ⟨z, rfl, hz, hb3⟩
  have HB3 := hid (HB2.out.trans (hb3.mono HB2.out.size))
  have HV3 := hid (rdTa_next HV2.out hb3)
  have HU3 := hid (rdLk_next HU2.out hb3)
  have HZ3 := hid (hz.more (S' := (· < w3.heap.size)) fun b hb => hb.2)
  obtain ⟨za, zc, rfl, -⟩ := hz
  obtain ⟨b, o, c3, y0, e3, hbb, -, k0, -, -⟩ := lk_at HU3.out (q := 0) (by omega)
  obtain ⟨b', o', c3', y1, e4, hbb', -, k1, -, -⟩ := lk_at HU3.out (q := 1) (by omega)
  rw [hll] at e3 e4
  obtain ⟨rfl, -, rfl⟩ := Value.slice.inj e3
  obtain ⟨e5, -, -⟩ := Value.slice.inj e4
  injection e5 with e6
  injection e6 with e7 e8
  subst e7 e8
  rw [hs0] at k0
  rw [hs1] at k1
  simp only [Nat.zero_mul, Nat.add_zero] at k0
  have hb4 := (Below.refl w3.heap.size w3).alloc (Nat.le_refl _) (.cells #[.int .i64 2, .int .i64 1] 3)
  have HB4 := hid (HB3.out.trans (hb4.mono HB3.out.size))
  have HV4 := hid (rdTa_next HV3.out hb4)
  have HU4 := hid (rdLk_next HU3.out hb4)
  have HIN := hid (law39_ints (.slice za 2 zc) _ [2, 1] _ (w3.alloc (.cells #[.int .i64 2, .int .i64 1] 3)) ((HZ3.out.keep fun p (hp : p.block < w3.heap.size) => hb4.cell (p := p) hp).more fun b (hb : b < w3.heap.size) => Nat.lt_of_lt_of_le hb hb4.size) (rdKs_one (n := 2) (BoxN.new w3 #[.int .i64 2, .int .i64 1] 3) rfl (by omega)) (Nat.le_refl _))
  clear e3 e4 hbb hbb' hb3 hb4 HAN
  go_wp2_with fail
  clear k0 k1
  with_reducible refine HIN.out.mono ?_
  generalize w3.alloc (.cells #[.int .i64 2, .int .i64 1] 3) = W4 at *
  rintro e w5 ⟨rfl, hb5⟩
  have HB5 := hid (HB4.out.trans (hb5.mono HB4.out.size))
  have HV5 := hid (rdTa_next HV4.out hb5)
  have HU5 := hid (rdLk_next HU4.out hb5)
  have HRO := hid (lin_Roots chainL (linksL chainL) _ _ w5.heap.size w5 chain_list.2.2 (by decide) (by omega) HV5.out HU5.out (Nat.le_refl _))
  unfold RootsP at HRO
  rw [HROO.out] at HRO
  clear hb5 HIN
  go_wp2_with fail
  with_reducible refine HRO.out.mono ?_
  rintro e w6 ⟨r, rfl, hr, hb6⟩
  have HB6 := hid (HB5.out.trans (hb6.mono HB5.out.size))
  have HV6 := hid (rdTa_next HV5.out hb6)
  have HU6 := hid (rdLk_next HU5.out hb6)
  have HR6 := hid (hr.more (S' := (· < w6.heap.size)) fun b hb => hb.2)
  obtain ⟨ra, rc, rfl, -⟩ := hr
  have hb7 := (Below.refl w6.heap.size w6).alloc (Nat.le_refl _) (.cells #[.int .i64 1] 3)
  have HB7 := hid (HB6.out.trans (hb7.mono HB6.out.size))
  have HV7 := hid (rdTa_next HV6.out hb7)
  have HU7 := hid (rdLk_next HU6.out hb7)
  have HIN2 := hid (law39_ints (.slice ra 1 rc) _ [1] _ (w6.alloc (.cells #[.int .i64 1] 3)) ((HR6.out.keep fun p (hp : p.block < w6.heap.size) => hb7.cell (p := p) hp).more fun b (hb : b < w6.heap.size) => Nat.lt_of_lt_of_le hb hb7.size) (rdKs_one (n := 1) (BoxN.new w6 #[.int .i64 1] 3) rfl (by omega)) (Nat.le_refl _))
  clear hb6 hb7 HRO
  go_wp2_with fail
  with_reducible refine HIN2.out.mono ?_
  generalize w6.alloc (.cells #[.int .i64 1] 3) = W7 at *
  rintro e w8 ⟨rfl, hb8⟩
  have HB8 := hid (HB7.out.trans (hb8.mono HB7.out.size))
  have HCK := hid (lin_Check chainL (linksL chainL) _ _ w8.heap.size w8 chain_list HLR.out HLD.out (by omega) (rdTa_next HV7.out hb8) (rdLk_next HU7.out hb8) (Nat.le_refl _) (HT.out.below HB8.out))
  clear hb8 HIN2
  go_wp2_with fail
  with_reducible refine HCK.out.mono ?_
  rintro e w9 ⟨rfl, hb9⟩
  have HB9 := hid (HB8.out.trans (hb9.mono HB8.out.size))
  clear hb9
  go_wp2
  go_ret
  exact ⟨rfl, HB9.out⟩
end Go.Proofs.YtfmlpaplnkohpaaGreatDoor
