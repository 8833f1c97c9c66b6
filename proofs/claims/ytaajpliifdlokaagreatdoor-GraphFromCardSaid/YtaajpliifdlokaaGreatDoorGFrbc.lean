/- Contract of graph.Groups at a list of tables and relations of them. -/
import Derived.Deep.Cut
import Derived.Test.YtaajpliifdlokaaGreatDoorGFrav
import Derived.Test.YtaajpliifdlokaaGreatDoorGFrba
import Derived.Test.YtaajpliifdlokaaGreatDoorGFrbb
set_option linter.unusedVariables false
set_option linter.unusedSimpArgs false
namespace Go.Proofs.YtaajpliifdlokaaGreatDoor
open Go.RowKit
def gmZ (ids : List Int) (g : Int → Int) (z : Int) : Option Int := if z ∈ ids then some (g z) else none
theorem gmZ_mem {ids : List Int} {g : Int → Int} {z : Int} (h : z ∈ ids) : gmZ ids g z = some (g z) := if_pos h
theorem gmZ_set {ids : List Int} {g : Int → Int} {a b m : Int} (ha : a ∈ ids) (hb : b ∈ ids) (hm : m = min (g a) (g b)) (z : Int) : setZ (setZ (gmZ ids g) a m) b m z = gmZ ids (joinG g a b) z := by
  unfold setZ gmZ joinG
  by_cases h1 : z = b
  · subst h1
    rw [if_pos rfl, if_pos hb, if_pos (.inr rfl), hm]
  · rw [if_neg h1]
    by_cases h2 : z = a
    · subst h2
      rw [if_pos rfl, if_pos ha, if_pos (.inl rfl), hm]
    · rw [if_neg h2]
      by_cases h3 : z ∈ ids
      · rw [if_pos h3, if_pos h3, if_neg (by rintro (e | e); exact h2 e; exact h1 e)]
      · rw [if_neg h3, if_neg h3]
theorem gmZ_snoc {l : List Int} {x : Int} (z : Int) : setZ (gmZ l id) x x z = gmZ (l ++ [x]) id z := by
  unfold setZ gmZ
  by_cases h : z = x
  · subst h
    rw [if_pos rfl, if_pos (by simp)]
    rfl
  · rw [if_neg h]
    by_cases h2 : z ∈ l
    · rw [if_pos h2, if_pos (List.mem_append.2 (.inl h2))]
    · rw [if_neg h2, if_neg (fun e => by rcases List.mem_append.1 e with e | e; exact h2 e; exact h (List.mem_singleton.1 e))]
def atZ (hs : List Int) (z : Int) : Option Int := if z ∈ hs then some (hs.idxOf z : Int) else none
theorem atZ_old {hs : List Int} {z : Int} (h : z ∈ hs) : atZ hs z = some (hs.idxOf z : Int) := if_pos h
theorem atZ_new {hs : List Int} {z : Int} (h : z ∉ hs) : atZ hs z = none := if_neg h
theorem atZ_snoc {hs : List Int} {x : Int} (hx : x ∉ hs) (z : Int) : setZ (atZ hs) x (hs.length : Int) z = atZ (hs ++ [x]) z := by
  unfold setZ atZ
  by_cases h : z = x
  · subst h
    rw [if_pos rfl, if_pos (by simp), List.idxOf_append, if_neg hx]
    simp
  · rw [if_neg h]
    by_cases h2 : z ∈ hs
    · rw [if_pos h2, if_pos (List.mem_append.2 (.inl h2)), List.idxOf_append, if_pos h2]
    · rw [if_neg h2, if_neg (fun e => by rcases List.mem_append.1 e with e | e; exact h2 e; exact h (List.mem_singleton.1 e))]
theorem idx_at {hs : List Int} {z : Int} (h : z ∈ hs) : hs.idxOf z < hs.length ∧ hs.getD (hs.idxOf z) 0 = z := by
  have h1 := List.idxOf_lt_length_of_mem h
  refine ⟨h1, ?_⟩
  simp [List.getD, h1]
def idsT (ts : List Ta) : List Int := ts.map Ta.id
theorem box_apart {w : World} {base : Nat} {e : TypeId} {size n : Nat} {v : Value} {xs : List Value} (h : w.ownsRow base e size v n xs) {b : Nat} {t : TypeId} {vs : Array Value} (hb : BoxN w b t vs) (ht : t ≠ e) : some b ≠ v.ownBlock := fun e0 => by
  obtain ⟨-, h⟩ := h
  rcases h with ⟨e1, -⟩ | ⟨g, cap, cur, e1, -, h3, -⟩
  · rw [e1] at e0; cases e0
  · rw [e1] at e0
    obtain rfl := Option.some.inj e0
    rw [hb] at h3
    have h4 := Option.some.inj h3
    injection h4 with _ h5 _
    exact ht h5
def GroupsP (w : World) (ts : List Ta) (rs : List Rl) (e : Ending) (w' : World) : Prop :=
  ∃ g x vs, e = .returned x ∧ GroupsOk (idsT ts) rs g ∧ GrSt w' w.heap.size x (groupsL g (idsT ts)) vs ∧ Below w.heap.size w w'
theorem info_intZ : (Tryz.prog.info? 3).map (fun i => (i.zero, i.size, i.bytes)) = some (some (.int .i64 0), 1, 8) := by kernel_rfl
theorem info_ssI : (Tryz.prog.info? 22).map (fun i => (i.zero, i.size, i.bytes)) = some (some (.slice none 0 0), 1, 24) := by kernel_rfl
theorem heads_le (g : Int → Int) : ∀ l : List Int, (headsL g l).length ≤ l.length := by
  refine snoc_ind ?_ ?_
  · simp [headsL]
  · intro l x ih
    rw [heads_snoc]
    split
    · rw [List.length_append]; omega
    · rw [List.length_append, List.length_append, List.length_singleton, List.length_singleton]; omega
theorem GrSt.base {w : World} {base base' : Nat} {v : Value} {out : List (List Int)} {vs : List Value} (h : GrSt w base v out vs) (hb : base' ≤ base) : GrSt w base' v out vs :=
  ⟨h.len, own_base h.row hb, fun i hi => own_base (h.kids i hi) hb, h.apart⟩
theorem group_elem_len (g : Int → Int) (l : List Int) (n : Nat) : ((groupsL g l).getD n []).length ≤ l.length := by
  by_cases h : n < (headsL g l).length
  · have e : (groupsL g l).getD n [] = withV g l ((headsL g l)[n]) := by simp [groupsL, List.getD, h]
    rw [e]
    exact List.length_filter_le _ _
  · have e : (groupsL g l).getD n [] = [] := by
      have h2 : ¬ n < (groupsL g l).length := by rw [groups_len]; exact h
      simp [List.getD, List.getElem?_eq_none (Nat.le_of_not_lt h2)]
    rw [e]
    simp
theorem slice_block {w : World} {base : Nat} {e : TypeId} {size n c : Nat} {a : Option Addr} {xs : List Value} (h : w.ownsRow base e size (.slice a n c) n xs) (hn : 0 < n) : ∃ b, a = some ⟨b, 0, none⟩ := by
  rcases h.2 with ⟨-, h1⟩ | ⟨g1, cap1, cur1, h1, -⟩
  · omega
  · exact ⟨g1, (Value.slice.inj h1).1⟩
theorem MapZ.setCell {w : World} {b K : Nat} {G : Int → Option Int} (h : MapZ w b K G) {p : Addr} (hp : b ≠ p.block) (u : Value) : MapZ (w.setCell p u) b K G := h.later (Below.heap_setCell _ _ _ _ hp)
theorem ints_len (zs : List Int) : (ints zs).length = zs.length := by simp [ints]
set_option maxRecDepth 100000 in
set_option maxHeartbeats 8000000 in
theorem graph_Groups (v u : Value) (ts : List Ta) (rs : List Rl) (B : Nat) (w : World) (h : ListV ts) (hv : RdTa w (· < B) v ts) (hu : RdRl w (· < B) u rs) (hB : B ≤ w.heap.size) (hr : ∀ r ∈ rs, r.ta ∈ idsT ts ∧ r.tb ∈ idsT ts) (hl : rs.length ≤ 1000000) :
  Calls Tryz.prog 26 #[v, u] w (GroupsP w ts rs) := by
 have HV := hid (fun W (hW : Below w.heap.size w W) => hv.keep (w' := W) fun p (hp : p.block < B) => hW.cell (p := p) (by omega))
 have HU := hid (fun W (hW : Below w.heap.size w W) => hu.keep (w' := W) fun p (hp : p.block < B) => hW.cell (p := p) (by omega))
 have HR := hid hr
 have HASC : Hid ((idsT ts).Pairwise fun a b => a < b) := hid (List.pairwise_map.2 h.2.2)
 have HID : Hid (∀ z ∈ idsT ts, 0 ≤ z ∧ z ≤ 1073741824) := hid (fun z hz => by
  obtain ⟨t, ht, rfl⟩ := List.mem_map.1 hz
  exact ⟨(h.2.1 t ht).1, (h.2.1 t ht).2.1⟩)
 have HW64 : Hid (∀ z ∈ idsT ts, W64 z) := hid (fun z hz => by have h1 := HID.out z hz; exact ⟨by omega, by omega⟩)
 have HIL : Hid ((idsT ts).length = ts.length) := hid (by simp [idsT])
 have HIT : Hid (∀ q, q < ts.length → (idsT ts).getD q 0 = (ts.getD q Ta.z).id) := hid (fun q hq => by simp [idsT, List.getD, hq])
 have hN := h.1
 obtain ⟨va, vc, rfl⟩ : ∃ x y, v = .slice x ts.length y := by
  obtain ⟨tv, ⟨x, y, e, -⟩, -⟩ := hv
  exact ⟨x, y, e⟩
 obtain ⟨ua, uc, rfl⟩ := hu.len
 clear hv hu hr h
 obtain ⟨N, hN'⟩ : ∃ N, N = ts.length := ⟨_, rfl⟩
 obtain ⟨M, hM'⟩ : ∃ M, M = rs.length := ⟨_, rfl⟩
 rw [← hN'] at HV HIL HIT hN
 rw [← hM'] at HU hl
 rw [← hN', ← hM']
 have HN := hid hN'.symm
 have HM := hid hM'.symm
 clear hN' hM'
 obtain ⟨ids, hids⟩ : ∃ ids, ids = idsT ts := ⟨_, rfl⟩
 rw [← hids] at HR HASC HID HW64 HIL HIT
 have HIDS := hid hids.symm
 clear hids
 have HTS : Hid (∀ q, q < N → ids.take (q + 1) = ids.take q ++ [(ts.getD q Ta.z).id]) := hid (fun q hq => by
  have h1 : q < ids.length := by rw [HIL.out]; exact hq
  rw [List.take_succ_eq_append_getElem h1, ← HIT.out q hq]
  simp [List.getD, h1])
 have HFRESH : Hid (∀ q, q < N → (ts.getD q Ta.z).id ∉ ids.take q) := hid (fun q hq hm => by
  obtain ⟨i, hi, e⟩ := List.getElem_of_mem hm
  rw [List.length_take] at hi
  rw [List.getElem_take, ] at e
  have h1 : q < ids.length := by rw [HIL.out]; exact hq
  have h2 := List.pairwise_iff_getElem.1 HASC.out i q (by omega) h1 (by omega)
  have h3 := HIT.out q hq
  simp [List.getD, h1] at h3
  simp [List.getD] at h3 e
  omega)
 have HMEMQ : Hid (∀ q, q < N → (ts.getD q Ta.z).id ∈ ids) := hid (fun q hq => by
  rw [← HIT.out q hq]
  exact getD_mem (by rw [HIL.out]; exact hq) 0)
 obtain ⟨i0, hi, hz0, hz1, hz2⟩ := info_parts info_intZ
 obtain ⟨j0, hj, hy0, hy1, hy2⟩ := info_parts info_ssI
 have hmm := @run_makeMap Tryz.prog
 have HMAP0 := hid (MapZ.made w)
 have HB0 := hid ((Below.refl w.heap.size w).alloc (Nat.le_refl _) (.map #[] 0))
 have hw0 : w.heap.size < (w.alloc (.map #[] 0)).heap.size := by rw [World.size_alloc]; omega
 go_enter Tryz.func26, Tryz.ntmps26
 generalize hLA : Code.loop _ = LA
 go_wp2_with fail
 generalize w.alloc (.map #[] 0) = W1 at *
 subst hLA
 go_loopg [6, 27] N (fun K ov i wr => ∃ q : Nat, i = .int .i64 (q : Int) ∧ q + K = N ∧ Hid (Below w.heap.size w wr) ∧ Hid (MapZ wr w.heap.size q (gmZ (ids.take q) id)) ∧ Hid (wr.ownsRow (w.heap.size + 1) 3 1 ov q (ints (ids.take q))))
 case atStart => exact ⟨0, rfl, by omega, HB0, hid (HMAP0.out.congr fun z => by simp [gmZ]), hid (World.ownsRow_nil _ _ _ _)⟩
 case round =>
  obtain ⟨q, rfl, hq, HB, HMP, HO⟩ := hrel
  obtain ⟨oa, oc, rfl⟩ := own_slice HO.out
  have hwz := HB.out.size
  have hml := HMP.out.lt
  by_cases hp : 0 < gk
  ·have hqN : q < N := by omega
   have hqi : (q : Int) < (N : Int) := by omega
   obtain ⟨b, o, c3, xb, yb, e3, hb, hrb, k0, k1, k2⟩ := ta_at (HV.out wr HB.out) (q := q) (by rw [HN.out]; exact hqN)
   rw [HN.out] at e3
   obtain ⟨rfl, -, rfl⟩ := Value.slice.inj e3
   have HFR := hid (HFRESH.out q hqN)
   have HTQ := hid (HTS.out q hqN)
   have HWT := hid (HW64.out _ (HMEMQ.out q hqN))
   clear e3 hb hrb
   generalize ts.getD q Ta.z = t at *
   obtain ⟨tid, tnm, tcs⟩ := t
   simp only at k0 k1 k2 HFR HTQ HWT
   generalize tcs.length = tl at *
   have hx := BoxN.new wr #[.int .i64 tid, .string tnm, .slice xb tl yb] 51
   have HBx := hid (HB.out.alloc hwz (.cells #[.int .i64 tid, .string tnm, .slice xb tl yb] 51))
   have HMx := hid (HMP.out.alloc (.cells #[.int .i64 tid, .string tnm, .slice xb tl yb] 51))
   have HOx := hid (own_below HO.out ((Below.refl wr.heap.size wr).alloc (Nat.le_refl _) (.cells #[.int .i64 tid, .string tnm, .slice xb tl yb] 51)))
   have HXx := hid hx
   obtain ⟨X, hX⟩ : ∃ W, W = wr.alloc (.cells #[.int .i64 tid, .string tnm, .slice xb tl yb] 51) := ⟨_, rfl⟩
   rw [← hX] at hx HBx HMx HOx HXx
   have hlk := HMx.out.look_ok HWT.out
   rw [show gmZ (ids.take q) id tid = none from if_neg HFR.out] at hlk
   simp only [Option.getD_none, Option.isSome_none] at hlk
   have x0 := hx.cell 0 rfl
   have hxs := HBx.out.size
   have hwx : wr.heap.size < X.heap.size := hx.lt
   rw [hX] at hlk x0
   clear hx
   have hbn := BoxN.new (wr.alloc (.cells #[.int .i64 tid, .string tnm, .slice xb tl yb] 51)) #[.int .i64 tid] 3
   rw [World.size_alloc] at hbn
   have HBN := hid hbn
   have HOy := hid (own_below HOx.out ((Below.refl X.heap.size X).alloc (Nat.le_refl _) (.cells #[.int .i64 tid] 3)))
   have HMy := hid (HMx.out.alloc (.cells #[.int .i64 tid] 3))
   have HXy := hid (HXx.out.alloc (.cells #[.int .i64 tid] 3))
   have HBy := hid (HBx.out.alloc hxs (.cells #[.int .i64 tid] 3))
   rw [hX] at HOy HMy HXy HBy hwx
   have hlq : (ints (ids.take q)).length ≤ q := by rw [ints_len]; exact List.length_take_le _ _
   clear hbn
   go_upto_region 9 with (at_builtin; (refine wpList_append_form _ rfl _ _ 22 22 rfl (w.heap.size + 1) 3 3 i0 (.int .i64 0) 1 8 Tryz.underlying22 Tryz.underlying22 hi hz0 hz1 hz2 rfl (by decide) (.slice oa q oc) q _ rfl HOy.out (some ⟨wr.heap.size + 1, 0, none⟩) 1 1 [.int .i64 tid] rfl rfl (fun _ => ⟨_, rfl, World.news_of_block HBN.out⟩) (by intro u hu; simp at hu; subst hu; rfl) (by omega) (by unfold maxLen; omega) (by omega) (by rw [World.size_alloc]; omega) ?_; intro p8 cap8 w8 hown8 hg8 hat8 hlt8; have HG8 := hid hg8; have HOWN8 := hid hown8; clear hown8 hg8 hat8))
   have HM8 := hid (HMy.out.grown HG8.out (HMy.out.apart HOy.out))
   have HX8 := hid (HXy.out.grown HG8.out (box_apart HOy.out HXy.out (by decide)))
   have HB8 := hid (HBy.out.grown HG8.out (by rw [World.size_alloc]; omega) (fun k hk => by have h1 := (HOy.out.lt k hk).1; omega))
   obtain ⟨w10, hrun, hm10, hg10⟩ := HM8.out.update HWT.out HWT.out (by unfold maxLen; omega)
   rw [show gmZ (ids.take q) id tid = none from if_neg HFR.out] at hm10
   have HM10 := hid (by simpa using hm10 : MapZ w10 w.heap.size (q + 1) (setZ (gmZ (ids.take q) id) tid tid))
   have HO10 := hid (own_kept HOWN8.out hg10 fun b h1 h2 => by
    have h3 := (HOWN8.out.lt b h1).1
    have h4 := Option.some.inj h2
    omega)
   have HB10 := hid (HB8.out.grown hg10 HB8.out.size (fun k hk => by have h1 := Option.some.inj hk; omega))
   have x0 := HX8.out.cell 0 rfl
   clear hm10 hg10 hlk
   go_wp2_with fail
   go_roundg (gk - 1)
   case rel => exact ⟨q + 1, by go_num, by omega, HB10, hid (HM10.out.congr fun z => by rw [HTQ.out]; exact gmZ_snoc z), hid (by rw [HTQ.out]; have h1 := HO10.out; simp only [ints, List.map_append, List.map_cons, List.map_nil] at h1 ⊢; exact h1)⟩
   case measure => omega
  ·obtain rfl : gk = 0 := by omega
   obtain rfl : q = N := by omega
   have HTA : Hid (ids.take q = ids) := hid (by rw [← HIL.out, List.take_length])
   rw [HTA.out] at HMP HO
   have HSO := hid (lib_SortZ ids (w.heap.size + 1) (.slice oa q oc) wr (by rw [HIL.out]; exact HO.out) HASC.out (by rw [HIL.out]; omega))
   have HG0 : Hid (GOk ids rs id) := hid (GOk.start fun x hx => (HID.out x hx).1)
   clear HO
   go_wp2_with fail
   with_reducible refine HSO.out.mono ?_
   rintro e w2 ⟨rfl, hown2, row, hg2, hrow2⟩
   rw [HIL.out] at hown2
   have HO2 := hid hown2
   have HM2 := hid (HMP.out.grown hg2 (fun e => by have h1 := hrow2 _ e.symm; omega))
   have HB2 := hid (HB.out.grown hg2 hwz (fun k hk => by have h1 := hrow2 k hk; omega))
   clear hown2 hg2 hrow2 HSO HMP HB hwz hml
   go_wp2_with fail
   go_loopg [11] (sumG ids id + 1) (fun K ch wr => ∃ (g : Int → Int) (c : Bool), ch = .bool c ∧ K = (if c = true then sumG ids g + 1 else 0) ∧ Hid (Below w.heap.size w wr) ∧ Hid (MapZ wr w.heap.size q (gmZ ids g)) ∧ Hid (wr.ownsRow (w.heap.size + 1) 3 1 (.slice oa q oc) q (ints ids)) ∧ Hid (GOk ids rs g) ∧ Hid (c = false → ∀ r ∈ rs, g r.ta = g r.tb))
   case atStart => exact ⟨id, true, rfl, rfl, HB2, HM2, HO2, HG0, hid (fun h => by cases h)⟩
   case round =>
    clear HB2 HM2 HO2 HG0
    obtain ⟨g, c, rfl, hK, HB, HMP, HO, HGO, HFIN⟩ := hrel
    obtain ⟨wA, rfl⟩ : ∃ W, W = wr := ⟨wr, rfl⟩
    obtain ⟨gA, rfl⟩ : ∃ g, g = gk := ⟨gk, rfl⟩
    have hwA := HB.out.size
    cases c with
    | false =>
     obtain rfl : gA = 0 := by rw [hK]; rfl
     clear hK
     have HFIN2 := hid (HFIN.out rfl)
     have HATX := hid (MapZ.made wA)
     have HBx := hid (HB.out.alloc hwA (.map #[] 0))
     have HMx := hid (HMP.out.alloc (.map #[] 0))
     have HOx := hid (own_below HO.out ((Below.refl wA.heap.size wA).alloc (Nat.le_refl _) (.map #[] 0)))
     have hmn := HMP.out.lt
     clear HB HMP HO HFIN
     go_wp2_with fail
     generalize wA.alloc (.map #[] 0) = WA at *
     obtain ⟨nb, hnb⟩ : ∃ nb, nb = wA.heap.size := ⟨_, rfl⟩
     rw [← hnb] at HATX hmn
     rw [← hnb]
     clear hnb hwA
     go_loopg [18, 103] q (fun K ov i wr => ∃ (k : Nat) (vs : List Value), i = .int .i64 (k : Int) ∧ k + K = q ∧ Hid (Below w.heap.size w wr) ∧ Hid (MapZ wr w.heap.size q (gmZ ids g)) ∧ Hid (wr.ownsRow (w.heap.size + 1) 3 1 (.slice oa q oc) q (ints ids)) ∧ Hid (MapZ wr nb (headsL g (ids.take k)).length (atZ (headsL g (ids.take k)))) ∧ Hid (GrSt wr (w.heap.size + 1) ov (groupsL g (ids.take k)) vs) ∧ Hid (∀ i b, i < (groupsL g (ids.take k)).length → (Value.slice oa q oc).ownBlock = some b → (vs.getD i nilS).ownBlock ≠ some b))
     case atStart => exact ⟨0, [], rfl, by omega, HBx, HMx, HOx, hid (HATX.out.congr fun z => by simp [atZ, headsL]), hid (by simpa [groupsL, headsL] using GrSt.start WA (w.heap.size + 1)), hid (fun i b hi => absurd hi (by simp [groupsL, headsL]))⟩
     case round =>
      clear HBx HMx HOx HATX
      obtain ⟨k, vs, rfl, hk, HB, HMP, HO, HAT, HGR, HAP⟩ := hrel
      obtain ⟨wB, rfl⟩ : ∃ W, W = wr := ⟨wr, rfl⟩
      have hwB := HB.out.size
      have hml := HMP.out.lt
      have hnl := HAT.out.lt
      by_cases hp : 0 < gk
      ·have hkq : k < q := by omega
       have hki : (k : Int) < (q : Int) := by omega
       have hkl : k < ids.length := by rw [HIL.out]; exact hkq
       obtain ⟨gb, hoa⟩ : ∃ gb, oa = some ⟨gb, 0, none⟩ := by
        rcases HO.out.2 with ⟨-, h1⟩ | ⟨g1, cap1, cur1, h1, -⟩
        ·omega
        ·exact ⟨g1, (Value.slice.inj h1).1⟩
       subst hoa
       have hgbl := (HO.out.lt gb rfl).2
       have hgbb := (HO.out.lt gb rfl).1
       have k0 : wB.cell? ⟨gb, k, none⟩ = some (.int .i64 (ids.getD k 0)) := by
        rw [HO.out.cellAt k (by omega)]
        simp [ints, List.getD, hkl]
       have hxm : ids.getD k 0 ∈ ids := getD_mem hkl 0
       have HTK : Hid (ids.take (k + 1) = ids.take k ++ [ids.getD k 0]) := hid (by
        rw [List.take_succ_eq_append_getElem hkl]
        simp [List.getD, hkl])
       have HXM := hid hxm
       generalize ids.getD k 0 = x at *
       have HWX := hid (HW64.out _ hxm)
       have HWG := hid (HW64.out _ (HGO.out.mem _ hxm))
       have hl1 := HMP.out.look HWX.out
       rw [gmZ_mem hxm] at hl1
       simp only [Option.getD_some] at hl1
       have hl2 := HAT.out.look_ok HWG.out
       have HHL := hid (heads_le g (ids.take k))
       have hkl2 : (ids.take k).length ≤ k := List.length_take_le _ _
       obtain ⟨va', vc', hva⟩ := own_slice HGR.out.row
       subst hva
       have HGL := hid (groups_len g (ids.take k))
       clear hxm
       by_cases hmem : g x ∈ headsL g (ids.take k)
       ·obtain ⟨hn0, hat0⟩ := idx_at hmem
        rw [atZ_old hmem] at hl2
        simp only [Option.getD_some, Option.isSome_some] at hl2
        have HGO2 := hid (groups_old (g := g) (l := ids.take k) (x := x) hn0 hat0)
        have HHS : Hid (headsL g (ids.take k ++ [x]) = headsL g (ids.take k)) := hid (by rw [heads_snoc, if_pos hmem])
        have hng : (headsL g (ids.take k)).idxOf (g x) < (groupsL g (ids.take k)).length := by rw [HGL.out]; exact hn0
        generalize (headsL g (ids.take k)).idxOf (g x) = n at *
        clear hat0 hmem
        have HKN := hid (HGR.out.kids n hng)
        have hln := group_elem_len g (ids.take k) n
        obtain ⟨G, hG⟩ := slice_block HGR.out.row (by omega)
        subst hG
        obtain ⟨ia, ic, hiv⟩ := own_slice HKN.out
        have hGl := HGR.out.row.lt G rfl
        have c0 : wB.cell? ⟨G, n, none⟩ = some (vs.getD n nilS) := by
         rw [HGR.out.row.cellAt n (by omega)]
         have h1 : n < vs.length := by rw [HGR.out.len]; exact hng
         simp [List.getD, h1]
        rw [hiv] at c0 HKN
        have HIV := hid hiv
        have hGn : G ≠ nb := fun e => (HGR.out.notMap HAT.out).1 (by rw [← e]; rfl)
        have HBN := hid (BoxN.new wB #[.int .i64 x] 3)
        have hbw := (Below.refl wB.heap.size wB).alloc (Nat.le_refl _) (.cells #[.int .i64 x] 3)
        have HKY := hid (own_below HKN.out hbw)
        have HGY := hid (HGR.out.later hbw)
        have HBY := hid (HB.out.alloc hwB (.cells #[.int .i64 x] 3))
        have HMY := hid (HMP.out.alloc (.cells #[.int .i64 x] 3))
        have HAY := hid (HAT.out.alloc (.cells #[.int .i64 x] 3))
        have HOY := hid (own_below HO.out hbw)
        have HAPN := hid (HAP.out n gb hng rfl)
        clear hiv hbw
        have hgln : (groupsL g (ids.take k)).length ≤ k := by rw [HGL.out]; have h1 := HHL.out; omega
        have hni : (n : Int) < ((groupsL g (ids.take k)).length : Int) := by omega
        generalize hil : ((groupsL g (ids.take k)).getD n []).length = il at *
        have HIL2 := hid hil
        clear hil
        go_wp2_with (at_builtin; (refine wpList_append_form _ rfl _ _ 22 22 rfl (w.heap.size + 1) 3 3 i0 (.int .i64 0) 1 8 Tryz.underlying22 Tryz.underlying22 hi hz0 hz1 hz2 rfl (by decide) (.slice ia il ic) il _ rfl HKY.out (some ⟨wB.heap.size, 0, none⟩) 1 1 [.int .i64 x] rfl rfl (fun _ => ⟨_, rfl, World.news_of_block HBN.out⟩) (by intro u hu; simp at hu; subst hu; rfl) (by omega) (by unfold maxLen; omega) (by omega) (by rw [World.size_alloc]; omega) ?_; intro p8 cap8 w8 hown8 hg8 hat8 hlt8; have hr8 := own_kept HGY.out.row hg8 (fun b h1 h2 => own_apartZ HGY.out.row HKY.out (by decide) b h1 h2); have c8 : w8.cell? ⟨G, n, none⟩ = some (.slice ia il ic) := (by rw [hr8.cellAt n (by omega), ← HIV.out]; have h1 : n < vs.length := (by rw [HGR.out.len]; exact hng); simp [List.getD, h1]); have f8 := hr8.frozenAt n; have HR8 := hid hr8; have HG8 := hid hg8; have HOWN8 := hid hown8; have HAT8 := hid hat8; clear hown8 hg8 hat8 hr8))
        have HGZ := hid (HGY.out.pushAt hng (x := x) (by rw [HIL2.out]) HOWN8.out (by rw [HIV.out]; exact HG8.out) (by rw [HIV.out]; exact HAT8.out))
        obtain ⟨-, hgs⟩ := HR8.out.stored n (.slice (some ⟨p8, 0, none⟩) (il + 1) cap8)
        have HMZ := hid ((HMY.out.grown HG8.out (fun e => HMY.out.apart HKY.out e)).setCell (p := ⟨G, n, none⟩) (by show w.heap.size ≠ G; omega) (.slice (some ⟨p8, 0, none⟩) (il + 1) cap8))
        have HAZ := hid ((HAY.out.grown HG8.out (fun e => HAY.out.apart HKY.out e)).setCell (p := ⟨G, n, none⟩) (by show nb ≠ G; exact fun e => hGn e.symm) (.slice (some ⟨p8, 0, none⟩) (il + 1) cap8))
        have HO8 := hid (own_kept HOY.out HG8.out fun b h1 h2 => by
         obtain rfl := Option.some.inj h1
         exact HAPN.out (by rw [HIV.out]; exact h2))
        have HOZ := hid (own_kept HO8.out hgs fun b h1 h2 => own_apartZ HO8.out HR8.out (by decide) b h1 (by rw [← h2]; rfl))
        have HBZ := hid ((HBY.out.grown HG8.out (by rw [World.size_alloc]; omega) (fun b h1 => by have h2 := (HKY.out.lt b h1).1; omega)).setCell (p := ⟨G, n, none⟩) (by show w.heap.size ≤ G; omega) (.slice (some ⟨p8, 0, none⟩) (il + 1) cap8))
        have HAPZ : Hid (∀ i b, i < (groupsL g (ids.take (k + 1))).length → (Value.slice (some ⟨gb, 0, none⟩) q oc).ownBlock = some b → ((vs.set n (.slice (some ⟨p8, 0, none⟩) (il + 1) cap8)).getD i nilS).ownBlock ≠ some b) := hid (fun i b hi h1 => by
         rw [HTK.out, HGO2.out, List.length_set] at hi
         by_cases e : n = i
         ·subst e
          have h2 : (vs.set n (.slice (some ⟨p8, 0, none⟩) (il + 1) cap8)).getD n nilS = .slice (some ⟨p8, 0, none⟩) (il + 1) cap8 := by
           simp [List.getD, List.getElem?_set, HGR.out.len, hng]
          rw [h2]
          obtain rfl := Option.some.inj h1
          intro h3
          have h4 : p8 = gb := Option.some.inj h3
          rcases HAT8.out with h5 | h5
          ·exact HAPN.out (by rw [HIV.out, h5, h4])
          ·rw [World.size_alloc] at h5; omega
         ·have h2 : (vs.set n (.slice (some ⟨p8, 0, none⟩) (il + 1) cap8)).getD i nilS = vs.getD i nilS := by simp [List.getD, List.getElem?_set, e]
          rw [h2]
          exact HAP.out i b hi h1)
        clear hgs
        go_roundg (gk - 1)
        case rel => exact ⟨k + 1, vs.set n (.slice (some ⟨p8, 0, none⟩) (il + 1) cap8), by go_num, by omega, HBZ, HMZ, HOZ, hid (by rw [HTK.out, HHS.out]; exact HAZ.out), hid (by rw [HTK.out, HGO2.out]; exact HGZ.out), HAPZ⟩
        case measure => omega
       ·rw [atZ_new hmem] at hl2
        simp only [Option.getD_none, Option.isSome_none] at hl2
        have HGN := hid (groups_new (g := g) (l := ids.take k) (x := x) hmem)
        have HHS : Hid (headsL g (ids.take k ++ [x]) = headsL g (ids.take k) ++ [g x]) := hid (by rw [heads_snoc, if_neg hmem])
        have HSN : Hid (∀ z, setZ (atZ (headsL g (ids.take k))) (g x) ((groupsL g (ids.take k)).length : Int) z = atZ (headsL g (ids.take k) ++ [g x]) z) := hid (fun z => by rw [HGL.out]; exact atZ_snoc hmem z)
        have hgln : (groupsL g (ids.take k)).length ≤ k := by rw [HGL.out]; have h1 := HHL.out; omega
        obtain ⟨w1, hrun, hm1, hg1⟩ := HAT.out.update HWG.out (v := ((groupsL g (ids.take k)).length : Int)) ⟨by omega, by omega⟩ (by rw [← HGL.out]; unfold maxLen; omega)
        rw [atZ_new hmem] at hm1
        have HAT1 := hid (by simpa using hm1 : MapZ w1 nb ((headsL g (ids.take k)).length + 1) (setZ (atZ (headsL g (ids.take k))) (g x) ((groupsL g (ids.take k)).length : Int)))
        have HMP1 := hid (HMP.out.grown hg1 (fun e => by have h1 := Option.some.inj e; omega))
        have HO1 := hid (own_kept HO.out hg1 fun b h1 h2 => HAT.out.apart HO.out (by rw [h1]; exact h2.symm ▸ rfl))
        have HGR1 := hid (HGR.out.grown hg1 fun b h1 => by
         obtain rfl := Option.some.inj h1
         exact HGR.out.notMap HAT.out)
        have HB1 := hid (HB.out.grown hg1 hwB (fun b h1 => by have h2 := Option.some.inj h1; omega))
        have hs1 := hg1.size
        have hl1' := HMP1.out.look HWX.out
        rw [gmZ_mem HXM.out] at hl1'
        simp only [Option.getD_some] at hl1'
        clear hm1 hg1
        obtain ⟨ln, hln⟩ : ∃ ln, ln = (groupsL g (ids.take k)).length := ⟨_, rfl⟩
        rw [← hln] at hgln hrun HAT1 HSN
        rw [← hln]
        have HLN := hid hln.symm
        have HVL : Hid (vs.length = ln) := hid (by rw [HGR.out.len, HLN.out])
        have hb1s := HB1.out.size
        have HBN1 := hid (BoxN.new w1 #[.slice none 0 0] 22)
        have hbw := (Below.refl w1.heap.size w1).alloc (Nat.le_refl _) (.cells #[.slice none 0 0] 22)
        have HGRY := hid (HGR1.out.later hbw)
        have HROWY : Hid ((w1.alloc (.cells #[.slice none 0 0] 22)).ownsRow (w.heap.size + 1) 22 1 (.slice va' ln vc') ln vs) := hid (by have h1 := HGRY.out.row; rw [HLN.out] at h1; exact h1)
        have HBY := hid (HB1.out.alloc hb1s (.cells #[.slice none 0 0] 22))
        have HMY := hid (HMP1.out.alloc (.cells #[.slice none 0 0] 22))
        have HAY := hid (HAT1.out.alloc (.cells #[.slice none 0 0] 22))
        have HOY := hid (own_below HO1.out hbw)
        clear hbw hln
        go_wp2_with (first
         | (at_builtin; (refine wpList_append_form _ rfl _ _ 63 63 rfl (w.heap.size + 1) 22 22 j0 (.slice none 0 0) 1 24 Tryz.underlying63 Tryz.underlying63 hj hy0 hy1 hy2 rfl (by decide) (.slice va' ln vc') ln vs rfl HROWY.out (some ⟨w1.heap.size, 0, none⟩) 1 1 [.slice none 0 0] rfl rfl (fun _ => ⟨_, rfl, World.news_of_block HBN1.out⟩) (by intro u hu; simp at hu; subst hu; rfl) (by omega) (by unfold maxLen; omega) (by omega) (by rw [World.size_alloc]; omega) ?_; intro p8 cap8 w8 hown8 hg8 hat8 hlt8; have HOWN8 := hid hown8; have HG8 := hid hg8; have c8 : w8.cell? ⟨p8, ln, none⟩ = some (.slice none 0 0) := (by rw [hown8.cellAt ln (by omega), ← HVL.out]; simp); have HB8 := hid (HBY.out.grown hg8 (by rw [World.size_alloc]; omega) (fun b h1 => by have h2 := (HROWY.out.lt b h1).1; omega)); have HBN9 := hid (BoxN.new w8 #[.int .i64 x] 3); have HB9 := hid (HB8.out.alloc HB8.out.size (.cells #[.int .i64 x] 3)); have h8s := HB8.out.size; have h8b := (hown8.lt p8 rfl).1; have HROW9 := hid (own_below hown8 ((Below.refl w8.heap.size w8).alloc (Nat.le_refl _) (.cells #[.int .i64 x] 3))); have h8g := hg8.size; clear hown8 hg8 hat8))
         | (at_builtin; (refine wpList_append_form _ rfl _ _ 22 22 rfl (w.heap.size + 1) 3 3 i0 (.int .i64 0) 1 8 Tryz.underlying22 Tryz.underlying22 hi hz0 hz1 hz2 rfl (by decide) (.slice none 0 0) 0 [] rfl (World.ownsRow_nil _ _ _ _) (some ⟨w8.heap.size, 0, none⟩) 1 1 [.int .i64 x] rfl rfl (fun _ => ⟨_, rfl, World.news_of_block HBN9.out⟩) (by intro u hu; simp at hu; subst hu; rfl) (by omega) (by unfold maxLen; omega) (by omega) (by rw [World.size_alloc]; omega) ?_; intro p9 cap9 w9 hown9 hg9 hat9 hlt9; have hr9 := own_kept HROW9.out hg9 (fun b h1 h2 => by cases h2); have c9 : w9.cell? ⟨p8, ln, none⟩ = some (.slice none 0 0) := (by rw [hr9.cellAt ln (by omega), ← HVL.out]; simp); have f9 := hr9.frozenAt ln; have HR9 := hid hr9; have HG9 := hid hg9; have HOWN9 := hid hown9; have HAT9 := hid hat9; clear hown9 hg9 hat9 hr9)))
        have HGR8 := hid (HGRY.out.pushNil (by rw [HLN.out]) HOWN8.out (by have h1 := HG8.out; rw [← HLN.out] at h1; exact h1))
        have HGRZ := hid (HGR8.out.later ((Below.refl w8.heap.size w8).alloc (Nat.le_refl _) (.cells #[.int .i64 x] 3)))
        have HEV : Hid ((vs ++ [nilS]).getD ln nilS = nilS) := hid (by rw [← HVL.out]; exact getD_snoc_eq _ _ _)
        have HEO : Hid ((groupsL g (ids.take k) ++ [[]]).getD ln [] = []) := hid (by rw [← HLN.out]; exact getD_snoc_eq _ _ _)
        have hlnl : ln < (groupsL g (ids.take k) ++ [([] : List Int)]).length := by rw [List.length_append, HLN.out, List.length_singleton]; omega
        have HGF := hid (HGRZ.out.pushAt hlnl (x := x) (g := p9) (m := 0 + 1) (cap' := cap9) (by rw [HEO.out]; rfl) (by rw [HEO.out]; exact HOWN9.out) (by rw [HEV.out]; exact HG9.out) (by rw [HEV.out]; exact HAT9.out))
        have HOUT : Hid (groupsL g (ids.take (k + 1)) = (groupsL g (ids.take k) ++ [[]]).set ln ((groupsL g (ids.take k) ++ [[]]).getD ln [] ++ [x])) := hid (by
         rw [HTK.out, HGN.out, HEO.out, ← HLN.out]
         simp [List.set_append])
        obtain ⟨-, hgs⟩ := HR9.out.stored ln (.slice (some ⟨p9, 0, none⟩) (0 + 1) cap9)
        have hpn : p8 ≠ nb := fun e => by
         have h1 := (HGR8.out.notMap (HAY.out.grown HG8.out (fun e => HAY.out.apart HROWY.out e))).1
         exact h1 (by rw [← e]; rfl)
        have HMZ := hid ((((HMY.out.grown HG8.out (fun e => HMY.out.apart HROWY.out e)).alloc (.cells #[.int .i64 x] 3)).grown HG9.out (by intro e; cases e)).setCell (p := ⟨p8, ln, none⟩) (by show w.heap.size ≠ p8; omega) (.slice (some ⟨p9, 0, none⟩) (0 + 1) cap9))
        have HAZ := hid ((((HAY.out.grown HG8.out (fun e => HAY.out.apart HROWY.out e)).alloc (.cells #[.int .i64 x] 3)).grown HG9.out (by intro e; cases e)).setCell (p := ⟨p8, ln, none⟩) (by show nb ≠ p8; exact fun e => hpn e.symm) (.slice (some ⟨p9, 0, none⟩) (0 + 1) cap9))
        have HO8 := hid (own_kept HOY.out HG8.out fun b h1 h2 => own_apartZ HOY.out HROWY.out (by decide) b h1 h2)
        have HO9 := hid (own_kept (own_below HO8.out ((Below.refl w8.heap.size w8).alloc (Nat.le_refl _) (.cells #[.int .i64 x] 3))) HG9.out fun b h1 h2 => by cases h2)
        have HOZ := hid (own_kept HO9.out hgs fun b h1 h2 => own_apartZ HO9.out HR9.out (by decide) b h1 (by rw [← h2]; rfl))
        have HBZ := hid ((HB9.out.grown HG9.out HB9.out.size (fun b h1 => by cases h1)).setCell (p := ⟨p8, ln, none⟩) (by show w.heap.size ≤ p8; omega) (.slice (some ⟨p9, 0, none⟩) (0 + 1) cap9))
        have hgw1 : wB.heap.size ≤ w1.heap.size := hs1
        have HAPZ : Hid (∀ i b, i < (groupsL g (ids.take (k + 1))).length → (Value.slice (some ⟨gb, 0, none⟩) q oc).ownBlock = some b → (((vs ++ [nilS]).set ln (.slice (some ⟨p9, 0, none⟩) (0 + 1) cap9)).getD i nilS).ownBlock ≠ some b) := hid (fun i b hi h1 => by
         rw [HOUT.out, List.length_set, List.length_append, HLN.out, List.length_singleton] at hi
         have hvl : (vs ++ [nilS]).length = ln + 1 := by rw [List.length_append, HVL.out, List.length_singleton]
         obtain rfl := Option.some.inj h1
         by_cases e : ln = i
         ·subst e
          have h2 : ((vs ++ [nilS]).set ln (.slice (some ⟨p9, 0, none⟩) (0 + 1) cap9)).getD ln nilS = .slice (some ⟨p9, 0, none⟩) (0 + 1) cap9 := by
           simp only [List.getD, List.getElem?_set, if_pos, hvl]
           rw [if_pos (by omega)]
           rfl
          rw [h2]
          intro h3
          have h4 : p9 = gb := Option.some.inj h3
          rcases HAT9.out with h5 | h5
          ·cases h5
          ·rw [World.size_alloc] at h5
           rw [World.size_alloc] at h8g
           omega
         ·have h2 : ((vs ++ [nilS]).set ln (.slice (some ⟨p9, 0, none⟩) (0 + 1) cap9)).getD i nilS = vs.getD i nilS := by
           have h3 : i < vs.length := by rw [HVL.out]; omega
           simp [List.getD, List.getElem?_set, e, List.getElem?_append_left h3]
          rw [h2]
          exact HAP.out i gb (by rw [HLN.out]; omega) rfl)
        have HLEN2 : Hid ((headsL g (ids.take (k + 1))).length = (headsL g (ids.take k)).length + 1) := hid (by rw [HTK.out, HHS.out, List.length_append, List.length_singleton])
        clear hgs
        go_roundg (gk - 1)
        case rel => exact ⟨k + 1, (vs ++ [nilS]).set ln (.slice (some ⟨p9, 0, none⟩) (0 + 1) cap9), by go_num, by omega, HBZ, HMZ, HOZ, hid (by rw [HLEN2.out, HTK.out, HHS.out]; exact HAZ.out.congr HSN.out), hid (by rw [HOUT.out]; exact HGF.out), HAPZ⟩
        case measure => omega
      ·obtain rfl : gk = 0 := by omega
       obtain rfl : k = q := by omega
       have HTA2 : Hid (ids.take k = ids) := hid (by rw [← HIL.out, List.take_length])
       rw [HTA2.out] at HGR
       obtain ⟨xa, xc, hxv⟩ := own_slice HGR.out.row
       subst hxv
       have HF : Hid (GroupsP w ts rs (.returned (.slice xa (groupsL g ids).length xc)) wB) := hid ⟨g, _, vs, rfl, by rw [HIDS.out]; exact ⟨HGO.out, HFIN2.out⟩, by rw [HIDS.out]; exact HGR.out.base (by omega), HB.out⟩
       go_wp2
       go_ret
       exact HF.out
    | true =>
     rw [if_pos rfl] at hK
     go_wp2_with fail
     go_loopg [11, 56] M (fun K ch i wr => ∃ (j : Nat) (g' : Int → Int) (c' : Bool), ch = .bool c' ∧ i = .int .i64 (j : Int) ∧ j + K = M ∧ Hid (Below w.heap.size w wr) ∧ Hid (MapZ wr w.heap.size q (gmZ ids g')) ∧ Hid (wr.ownsRow (w.heap.size + 1) 3 1 (.slice oa q oc) q (ints ids)) ∧ Hid (GOk ids rs g') ∧ Hid (c' = true → sumG ids g' < sumG ids g) ∧ Hid (c' = false → g' = g ∧ ∀ k, k < j → g (rs.getD k Rl.z).ta = g (rs.getD k Rl.z).tb))
     case atStart => exact ⟨0, g, false, rfl, rfl, by omega, HB, HMP, HO, HGO, hid (fun h => by cases h), hid (fun _ => ⟨rfl, fun k hk => absurd hk (by omega)⟩)⟩
     case round =>
      clear HB HMP HO HGO HFIN
      obtain ⟨j, g', c', rfl, rfl, hj, HB, HMP, HO, HGO, HC1, HC0⟩ := hrel
      obtain ⟨wB, rfl⟩ : ∃ W, W = wr := ⟨wr, rfl⟩
      have hwB := HB.out.size
      have hmlB := HMP.out.lt
      by_cases hp : 0 < gk
      ·have hjM : j < M := by omega
       have hji : (j : Int) < (M : Int) := by omega
       obtain ⟨b, o, c3, e3, hb, k0, k1, k2, k3, k4, k5, k6, k7, k8, k9, k10⟩ := rl_at (HU.out wB HB.out) (q := j) (by rw [HM.out]; exact hjM)
       rw [HM.out] at e3
       obtain ⟨rfl, -, rfl⟩ := Value.slice.inj e3
       have hrm : rs.getD j Rl.z ∈ rs := getD_mem (by rw [HM.out]; exact hjM) _
       obtain ⟨ha1, ha2⟩ := HR.out _ hrm
       have HJ := hid (fun (hg : g' (rs.getD j Rl.z).ta ≠ g' (rs.getD j Rl.z).tb) => (⟨HGO.out.join hrm ha1 ha2, join_lt HGO.out ha1 ha2 hg⟩ : GOk ids rs (joinG g' (rs.getD j Rl.z).ta (rs.getD j Rl.z).tb) ∧ sumG ids (joinG g' (rs.getD j Rl.z).ta (rs.getD j Rl.z).tb) < sumG ids g'))
       have HEQ := hid (fun (hg : g' (rs.getD j Rl.z).ta = g' (rs.getD j Rl.z).tb) => (fun hc => by
        obtain ⟨h1, h2⟩ := HC0.out hc
        refine ⟨h1, fun k hk => ?_⟩
        by_cases e : k = j
        ·rw [e, ← h1]; exact hg
        ·exact h2 k (by omega) : c' = false → g' = g ∧ ∀ k, k < j + 1 → g (rs.getD k Rl.z).ta = g (rs.getD k Rl.z).tb))
       clear e3 hb hrm
       generalize rs.getD j Rl.z = r at *
       obtain ⟨ta, ca, tb, cb, co, oa2, ob, ma, mb2, la, lb⟩ := r
       simp only at k0 k1 k2 k3 k4 k5 k6 k7 k8 k9 k10 ha1 ha2 HJ HEQ
       have hx := BoxN.new wB #[.int .i64 ta, .int .i64 ca, .int .i64 tb, .int .i64 cb, .int .i64 co, .int .i64 oa2, .int .i64 ob, .int .i64 ma, .int .i64 mb2, .int .i64 la, .int .i64 lb] 44
       have HBx := hid (HB.out.alloc hwB (.cells #[.int .i64 ta, .int .i64 ca, .int .i64 tb, .int .i64 cb, .int .i64 co, .int .i64 oa2, .int .i64 ob, .int .i64 ma, .int .i64 mb2, .int .i64 la, .int .i64 lb] 44))
       have HMx := hid (HMP.out.alloc (.cells #[.int .i64 ta, .int .i64 ca, .int .i64 tb, .int .i64 cb, .int .i64 co, .int .i64 oa2, .int .i64 ob, .int .i64 ma, .int .i64 mb2, .int .i64 la, .int .i64 lb] 44))
       have HOx := hid (own_below HO.out ((Below.refl wB.heap.size wB).alloc (Nat.le_refl _) (.cells #[.int .i64 ta, .int .i64 ca, .int .i64 tb, .int .i64 cb, .int .i64 co, .int .i64 oa2, .int .i64 ob, .int .i64 ma, .int .i64 mb2, .int .i64 la, .int .i64 lb] 44)))
       obtain ⟨X, hX⟩ : ∃ W, W = wB.alloc (.cells #[.int .i64 ta, .int .i64 ca, .int .i64 tb, .int .i64 cb, .int .i64 co, .int .i64 oa2, .int .i64 ob, .int .i64 ma, .int .i64 mb2, .int .i64 la, .int .i64 lb] 44) := ⟨_, rfl⟩
       rw [← hX] at hx HBx HMx HOx
       have HXx := hid hx
       have hxs := HBx.out.size
       have hwx : wB.heap.size < X.heap.size := hx.lt
       have HWA := hid (HW64.out _ ha1)
       have HWB := hid (HW64.out _ ha2)
       have hl1 := HMx.out.look_ok HWA.out
       have hl2 := HMx.out.look_ok HWB.out
       rw [gmZ_mem ha1] at hl1
       rw [gmZ_mem ha2] at hl2
       simp only [Option.getD_some, Option.isSome_some] at hl1 hl2
       have x0 := hx.cell 0 rfl
       have x2 := hx.cell 2 rfl
       have HGA := hid (HW64.out _ (HGO.out.mem _ ha1))
       have HGB := hid (HW64.out _ (HGO.out.mem _ ha2))
       clear hx
       by_cases hg : g' ta = g' tb
       ·rw [hg] at hl1
        have HEQ2 := hid (HEQ.out hg)
        rw [hX] at hl1 hl2 x0 x2
        generalize g' tb = gv at *
        go_wp2_with fail
        go_roundg (gk - 1)
        case rel => exact ⟨j + 1, g', c', rfl, by go_num, by omega, hid (by rw [← hX]; exact HBx.out), hid (by rw [← hX]; exact HMx.out), hid (by rw [← hX]; exact HOx.out), HGO, HC1, HEQ2⟩
        case measure => omega
       ·obtain ⟨hj1, hj2⟩ := HJ.out hg
        have HJ1 := hid hj1
        have HJ2 : Hid (sumG ids (joinG g' ta tb) < sumG ids g) := hid (by
         cases c' with
         | true => have := HC1.out rfl; omega
         | false => rw [(HC0.out rfl).1] at hj2 ⊢; exact hj2)
        have hgd : decide (g' ta = g' tb) = false := decide_eq_false hg
        have hgb : (g' ta == g' tb) = false := beq_false_of_ne hg
        have hgn : (g' ta != g' tb) = true := by simpa using hg
        have hmw : W64 (min (g' ta) (g' tb)) := by obtain ⟨h1, h2⟩ := HGA.out; obtain ⟨h3, h4⟩ := HGB.out; exact ⟨by omega, by omega⟩
        have HMW := hid hmw
        have HST := hid (fun z => @gmZ_set ids g' ta tb (min (g' ta) (g' tb)) ha1 ha2 rfl z)
        have HN1 := hid (gmZ_mem (g := g') ha1)
        have HN2 : Hid ((setZ (gmZ ids g') ta (min (g' ta) (g' tb)) tb).isSome = true) := hid (by
         unfold setZ
         split
         ·rfl
         ·rw [gmZ_mem ha2]; rfl)
        clear hj1 hj2 hmw
        rw [hX] at hl1 hl2 x0 x2
        go_upto_region 21 with fail
        rw [← hX]
        clear hX hl1 hl2 x0 x2
        obtain ⟨w1, hrun1, hm1, hg1⟩ := (HMx.out.later (w' := X.drew) rfl).update HWA.out HMW.out (by unfold maxLen; omega)
        rw [HN1.out] at hm1
        simp only [Option.isSome_some, if_true] at hm1
        obtain ⟨w2, hrun2, hm2, hg2⟩ := hm1.update HWB.out HMW.out (by unfold maxLen; omega)
        rw [if_pos HN2.out] at hm2
        have hbx1 := BoxN.grown (w := X.drew) HXx.out hg1 (by intro e; have h1 := Option.some.inj e; omega)
        have x0 : X.drew.cell? ⟨wB.heap.size, 0, none⟩ = some (.int .i64 ta) := HXx.out.cell 0 rfl
        have x2 : X.drew.cell? ⟨wB.heap.size, 2, none⟩ = some (.int .i64 tb) := HXx.out.cell 2 rfl
        have y0 := hbx1.cell 0 rfl
        have y2 := hbx1.cell 2 rfl
        have HB2 : Hid (Below w.heap.size w w2) := hid ((((HBx.out).drew).grown hg1 hxs (fun k hk => by have h1 := Option.some.inj hk; omega)).grown hg2 (Nat.le_trans hxs hg1.size) (fun k hk => by have h1 := Option.some.inj hk; omega))
        have HM2 := hid (hm2.congr HST.out)
        have HO2 := hid (own_kept (own_kept (w := X.drew) HOx.out hg1 fun b h1 h2 => by
         have h3 := (HOx.out.lt b h1).1
         have h4 := Option.some.inj h2
         omega) hg2 fun b h1 h2 => by
         have h3 := (HOx.out.lt b h1).1
         have h4 := Option.some.inj h2
         omega)
        clear hm1 hm2 hg1 hg2 hbx1
        go_region
        all_goals
         go_wp2_with fail
         go_roundg (gk - 1)
         case rel => exact ⟨j + 1, joinG g' ta tb, true, rfl, by go_num, by omega, HB2, HM2, HO2, HJ1, hid (fun _ => HJ2.out), hid (fun h => by cases h)⟩
         case measure => omega
      ·obtain rfl : gk = 0 := by omega
       obtain rfl : j = M := by omega
       go_wp2_with fail
       go_roundg (if c' = true then sumG ids g' + 1 else 0)
       case rel => exact ⟨g', c', rfl, rfl, HB, HMP, HO, HGO, hid (fun hc r hr => by
        obtain ⟨h1, h2⟩ := HC0.out hc
        obtain ⟨k, hk, e⟩ := List.getElem_of_mem hr
        have h3 := h2 k (by rw [← HM.out]; exact hk)
        simp [List.getD, hk, e] at h3
        rw [h1]
        exact h3)⟩
       case measure =>
        cases c' with
        | true => rw [if_pos rfl]; have := HC1.out rfl; omega
        | false => rw [if_neg (by simp)]; omega
end Go.Proofs.YtaajpliifdlokaaGreatDoor
