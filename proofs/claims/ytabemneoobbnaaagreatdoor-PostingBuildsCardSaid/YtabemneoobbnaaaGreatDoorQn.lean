/- Contract of slices.Delete of one column of an index. Contract of posting.Remove at a column that is there. -/
import Derived.Test.YtabemneoobbnaaaGreatDoorOh
import Derived.Lib.SliceRun
import Derived.Lib.LazyBuf
import Derived.Deep.Upon
namespace Go.Proofs.YtabemneoobbnaaaGreatDoor
open Go.RowKit

/-- 'clear(s)' of one element of several cells -/
theorem run_clear_one {P : Program} (w : World) (t e ty : TypeId) (z : Value) (zs : List Value) (ht : P.underlying t = some (.slice e)) (hv : ∀ w, (zeroValue e).run P w = .ok z w) (hz : z.cells = zs.toArray) (h1 : ∀ v ∈ zs, v.oneCell' = true) (b o c : Nat)
    (hc : ∀ j, j < zs.length → (w.cell? ⟨b, o + j, none⟩).isSome = true) (hf : ∀ j, j < zs.length → w.frozen? ⟨b, o + j, none⟩ = false) :
    (Builtin.clear_ #[t] ty #[.slice (some ⟨b, o, none⟩) 1 c]).run P w = .ok (.tuple #[]) (w.setCells b o zs) := by
  have hzc : (Builtin.zeroCells z.cells 1).toList = zs := by
    rw [hz]
    simp [Builtin.zeroCells]
    apply List.ext_getElem
    · simp
    · intro i h1 h2
      simp [Nat.mod_eq_of_lt h2, h2]
  have hst := run_storeCells_cells (P := P) b o zs 0 w (by simpa using hc) (by simpa using hf) h1
  simp only [Nat.add_zero] at hst
  simp [Builtin.clear_, run_underlying ht, hv, hzc, hst]

theorem eraseIdx_getD (cs : List Cv) (i q : Nat) : (cs.eraseIdx i).getD q Cv.z = if q < i then cs.getD q Cv.z else cs.getD (q + 1) Cv.z := by
  simp only [List.getD]
  rw [List.getElem?_eraseIdx]
  split <;> rfl

/-- a column's cells in a row -/
theorem row_of_cvs {w : World} {base blk n cap : Nat} {e : TypeId} {cs : List Cv} (h : CvSt w base e (.slice (some ⟨blk, 0, none⟩) n cap) cs) (hn : cs.length = n) :
    ∃ (vv : Nat → Value) (f : Nat → Value), w.rowIs blk e (cap * 3) f ∧ (∀ q, q < n → ∀ j, j < 3 → f (q * 3 + j) = cvF cs vv q j) ∧ n ≤ cap ∧ cap ≤ maxLen ∧ base ≤ blk ∧ blk < w.heap.size ∧ ∀ q, q < n → InS w (Own w base (.slice (some ⟨blk, 0, none⟩) n cap)) (vv q) (cs.getD q Cv.z).2 := by
  subst hn
  obtain ⟨vv, hnest⟩ := h
  rcases hnest.row.2 with ⟨h0, -⟩ | ⟨g, c', cur, h0, hb, hg, hnc, hm, hs, ht⟩
  · cases h0
  · obtain ⟨e1, -, e2⟩ := Value.slice.inj h0
    cases e1
    subst e2
    refine ⟨vv, fun i => cur.getD i undef, ⟨cur, hg, hs, fun i hi => ?_⟩, fun q hq j hj => ?_, hnc, hm, hb, (Array.getElem?_eq_some_iff.1 hg).1, hnest.kids⟩
    · have : i < cur.size := by omega
      simp [Array.getD, this]
    · have h2 := flatK_at (f := cvF cs vv) hq hj
      rw [← ht, List.getElem?_take] at h2
      split at h2
      · rw [Array.getElem?_toList] at h2
        obtain ⟨hlt, h3⟩ := Array.getElem?_eq_some_iff.1 h2
        simp [Array.getD, hlt, h3]
      · cases h2

theorem setCells_same (b : Nat) : ∀ (vs : List Value) (o : Nat) (w : World), (w.setCells b o vs).heap.size = w.heap.size ∧ (∀ k, k ≠ b → (w.setCells b o vs).heap[k]? = w.heap[k]?) ∧ (w.setCells b o vs).os = w.os ∧ (w.setCells b o vs).tape = w.tape ∧ (w.setCells b o vs).output = w.output
  | [], _, _ => ⟨rfl, fun _ _ => rfl, rfl, rfl, rfl⟩
  | v :: r, o, w => by
    obtain ⟨h1, h2, h3, h4, h5⟩ := setCells_same b r (o + 1) (w.setCell ⟨b, o, none⟩ v)
    exact ⟨h1.trans (World.size_setCell _ _ _), fun k hk => (h2 k hk).trans (Below.heap_setCell _ _ _ _ hk), h3, h4, h5⟩

set_option maxRecDepth 100000 in
set_option maxHeartbeats 2000000 in
theorem delete_set (cs : List Cv) (base blk k cap i : Nat) (w : World) (hn : cs.length = k + 1) (hi : i < k + 1) (hm : k + 1 ≤ 1048576) (h : CvSt w base 96 (.slice (some ⟨blk, 0, none⟩) (k + 1) cap) cs) :
    Calls Tryz.prog 69 #[.slice (some ⟨blk, 0, none⟩) (k + 1) cap, .int .i64 (i : Int), .int .i64 ((i : Int) + 1)] w (fun e w' => e = .returned (.slice (some ⟨blk, 0, none⟩) k cap) ∧
      CvSt w' base 96 (.slice (some ⟨blk, 0, none⟩) k cap) (cs.eraseIdx i) ∧ w.grownBy w' (some blk)) := by
  obtain ⟨i0, hi0, hz0, hz1, hz2⟩ := info_parts info_set
  obtain ⟨vv, f, hrow, hf, hnc, hcm, hbb, hbl, hkids⟩ := row_of_cvs h hn
  unfold maxLen at hcm
  obtain ⟨A, hA, hAr⟩ : ∃ A : Addr, (if cap = i + 1 then some (⟨blk, 0, none⟩ : Addr) else some ⟨blk, (i + 1) * 3, none⟩) = some A ∧ (k - i ≠ 0 → A = ⟨blk, (i + 1) * 3, none⟩) := by
    by_cases h : cap = i + 1
    · exact ⟨⟨blk, 0, none⟩, by simp [h], fun h2 => absurd h2 (by omega)⟩
    · exact ⟨_, by simp [h], fun _ => rfl⟩
  have hni : (i : Int) ≠ (i : Int) + 1 := by omega
  have hone : ∀ q, q < k + 1 → ∀ j, j < 3 → (f (q * 3 + j)).oneCell' = true := fun q hq j hj => by
    obtain ⟨a1, c1, e1, -⟩ := hkids q hq
    rw [hf q hq j hj]
    rcases (show j = 0 ∨ j = 1 ∨ j = 2 by omega) with rfl | rfl | rfl
    · rfl
    · rfl
    · show (vv q).oneCell' = true
      rw [e1]; rfl
  obtain ⟨news, hnews⟩ : ∃ news, news = (List.range ((k - i) * 3)).map (fun t => f ((i + 1) * 3 + t)) := ⟨_, rfl⟩
  have hlen : news.length = (k - i) * 3 := by rw [hnews]; simp
  have hget : ∀ t, t < (k - i) * 3 → news[t]? = some (f ((i + 1) * 3 + t)) := fun t ht => by rw [hnews]; simp [ht]
  have hsrc : Hid (∀ t u, news[t]? = some u → w.drew.cell? (A.add t) = some u) := by
    intro t u hu
    have ht : t < (k - i) * 3 := by have := (List.getElem?_eq_some_iff.1 hu).1; omega
    rw [hget t ht] at hu
    rw [hAr (by omega), Addr.add_lit]
    exact (hrow.cell (i := (i + 1) * 3 + t) (by omega)).trans hu
  have s1 : Hid (news.length = (k - i) * 3) := hid hlen
  have s2 : Hid (∀ u ∈ news, u.oneCell' = true) := by
    intro u hu
    rw [hnews] at hu
    obtain ⟨t, ht, rfl⟩ := List.mem_map.1 hu
    have ht2 := List.mem_range.1 ht
    have := hone (i + 1 + t / 3) (by omega) (t % 3) (by omega)
    rwa [show (i + 1 + t / 3) * 3 + t % 3 = (i + 1) * 3 + t by omega] at this
  have s3 : Hid (∀ t, t < news.length → (w.drew.cell? ⟨blk, 0 + i * 3 + t, none⟩).isSome = true ∧ w.drew.frozen? ⟨blk, 0 + i * 3 + t, none⟩ = false) := by
    intro t ht
    rw [hlen] at ht
    rw [Nat.zero_add]
    refine ⟨?_, hrow.frozen (i * 3 + t)⟩
    show (w.cell? ⟨blk, i * 3 + t, none⟩).isSome = true
    rw [hrow.cell (i := i * 3 + t) (by omega)]
    rfl
  obtain ⟨W1, hW1⟩ : ∃ W1, W1 = w.drew.setCells blk (0 + i * 3) news := ⟨_, rfl⟩
  have hW : Hid (W1 = w.drew.setCells blk (0 + i * 3) news) := hid hW1
  have hrow1 : W1.rowIs blk 96 (cap * 3) (fun j => if i * 3 ≤ j ∧ j < i * 3 + news.length then news.getD (j - i * 3) undef else f j) := by
    rw [hW1, Nat.zero_add]
    refine (Go.rowIs_setCells news (i * 3) w.drew f hrow).congr fun j _ => ?_
    by_cases h : i * 3 ≤ j ∧ j < i * 3 + news.length
    · rw [if_pos h, if_pos h]
      have : j - i * 3 < news.length := by omega
      simp [List.getD, this]
    · rw [if_neg h, if_neg h]
  have hcl : ∀ ty, (Builtin.clear_ #[94] ty #[.slice (some ⟨blk, k * 3, none⟩) 1 (cap - k)]).run Tryz.prog W1 = .ok (.tuple #[]) (W1.setCells blk (k * 3) [.int .i64 0, .int .i64 0, .slice none 0 0]) := fun ty =>
    run_clear_one W1 _ _ ty _ [.int .i64 0, .int .i64 0, .slice none 0 0] Tryz.underlying94 (fun w => Tryz.zeroValue96 w) rfl (by intro v hv; simp at hv; rcases hv with rfl | rfl <;> rfl) blk (k * 3) _ (fun j hj => by
      have hj3 : j < 3 := hj
      rw [hrow1.cell (i := k * 3 + j) (by omega)]
      rfl) (fun j _ => hrow1.frozen _)
  have hck : ¬ cap = k := by omega
  have hik : i ≤ k := by omega
  clear hW1
  go_enter Tryz.func69, Tryz.ntmps69
  have hcap : i ≤ cap := by omega
  have hcap2 : i + 1 ≤ cap := by omega
  have hb1 : (0 : Int) ≤ (i : Int) + 1 := by omega
  have hb2 : (i : Int) + 1 ≤ ((k + 1 : Nat) : Int) := by omega
  go_wp2_with fail
  go_region_law (refine step_append_room rfl (.tmp 22) (.tmp 25) 94 rfl 96 i0 3 Tryz.underlying94 hi0 hz1 blk 0 i cap (by simp [Act.eval, Act.put]) A (k - i) (cap - (i + 1)) news (by simp [Act.eval, Act.put]) s1.out hsrc.out s2.out (by omega) s3.out ?_; rw [← hW.out])
  go_wp2
  go_ret
  obtain ⟨a1, a2, a3, a4, a5⟩ := setCells_same blk [.int .i64 0, .int .i64 0, .slice none 0 0] (k * 3) W1
  obtain ⟨b1, b2, b3, b4, b5⟩ := setCells_same blk news (0 + i * 3) w.drew
  rw [← hW.out] at b1 b2 b3 b4 b5
  have hsize : (W1.setCells blk (k * 3) [.int .i64 0, .int .i64 0, .slice none 0 0]).heap.size = w.heap.size := a1.trans b1
  have hkept : ∀ b, b ≠ blk → (W1.setCells blk (k * 3) [.int .i64 0, .int .i64 0, .slice none 0 0]).heap[b]? = w.heap[b]? := fun b hb => (a2 b hb).trans (b2 b hb)
  refine ⟨rfl, ?_, ⟨a3.trans b3, a4.trans b4, a5.trans b5, by rw [hsize]; exact Nat.le_refl _, fun b _ hb => hkept b (fun e => hb (by rw [e]))⟩⟩
  · have hrow2 := Go.rowIs_setCells [.int .i64 0, .int .i64 0, .slice none 0 0] (k * 3) W1 _ hrow1
    obtain ⟨cur, hcur, hsz, hat⟩ := hrow2
    refine ⟨fun q => if q < i then vv q else vv (q + 1), ?_⟩
    have hel : (cs.eraseIdx i).length = k := by rw [List.length_eraseIdx]; simp [hn, hi]
    rw [hel]
    refine ⟨⟨flatK_len _ _ _, .inr ⟨blk, cap, cur, rfl, hbb, hcur, by omega, by unfold maxLen; omega, hsz, ?_⟩⟩, ?_, fun q hq => ?_⟩
    · apply List.ext_getElem?
      intro t
      by_cases ht : t < k * 3
      · have h2 := flatK_at (f := cvF (cs.eraseIdx i) fun q => if q < i then vv q else vv (q + 1)) (k := 3) (i := t / 3) (j := t % 3) (show t / 3 < k by omega) (by omega)
        rw [show t / 3 * 3 + t % 3 = t by omega] at h2
        rw [h2, List.getElem?_take_of_lt ht, Array.getElem?_toList, hat t (by omega)]
        dsimp only
        rw [if_neg (by simp; omega)]
        congr 1
        unfold cvF
        rw [eraseIdx_getD]
        dsimp only
        by_cases hqi : t / 3 < i
        · rw [if_neg (by omega), if_pos hqi, if_pos hqi]
          have := hf (t / 3) (by omega) (t % 3) (by omega)
          rw [show t / 3 * 3 + t % 3 = t by omega] at this
          exact this
        · rw [if_pos (by rw [hlen]; omega), if_neg hqi, if_neg hqi]
          have hg := hget (t - i * 3) (by omega)
          have := hf (t / 3 + 1) (by omega) (t % 3) (by omega)
          rw [show (t / 3 + 1) * 3 + t % 3 = (i + 1) * 3 + (t - i * 3) by omega] at this
          simp only [List.getD, hg, Option.getD_some]
          exact this
      · rw [List.getElem?_eq_none (by simp [hsz]; omega), List.getElem?_eq_none (by rw [flatK_len]; omega)]
    · rw [hsize]; omega
    · dsimp only
      rw [eraseIdx_getD]
      have hk2 : ∀ q, q < k + 1 → InS (W1.setCells blk (k * 3) [.int .i64 0, .int .i64 0, .slice none 0 0]) (Own (W1.setCells blk (k * 3) [.int .i64 0, .int .i64 0, .slice none 0 0]) base (.slice (some ⟨blk, 0, none⟩) k cap)) (vv q) (cs.getD q Cv.z).2 := fun q hq => by
        refine (InK.keep (hkids q hq) fun p hp => ?_).more fun b hb => ?_
        · exact World.cell?_of_block (hkept _ (fun e => hp.2.2 (by rw [e]; rfl)))
        · exact ⟨hb.1, by rw [hsize]; exact hb.2.1, hb.2.2⟩
      by_cases hqi : q < i
      · rw [if_pos hqi, if_pos hqi]
        exact hk2 q (by omega)
      · rw [if_neg hqi, if_neg hqi]
        exact hk2 (q + 1) (by omega)

end Go.Proofs.YtabemneoobbnaaaGreatDoor

namespace Go.Proofs.YtabemneoobbnaaaGreatDoor
open Go.RowKit

theorem erase_sub {cs : List Cv} {i : Nat} : ∀ c ∈ cs.eraseIdx i, c ∈ cs := fun _ h => List.mem_of_mem_eraseIdx h

set_option maxRecDepth 100000 in
set_option maxHeartbeats 4000000 in
theorem posting_Remove (cs : List Cv) (hok : CvsOk cs) (hcs : StrOk cs) (ev vv lv : Value) (B i : Nat) (w : World) (hi : i < cs.length) (hx : RdIx w (· < B) ev vv lv (indexOf cs)) (hB : B ≤ w.heap.size) :
    Calls Tryz.prog 36 #[.agg #[ev, vv, lv], .agg #[.int .i64 (cs.getD i Cv.z).1.1, .int .i64 ((cs.getD i Cv.z).1.2 : Int)]] w (IxP w (cs.eraseIdx i) okV) := by
  have HAL : Hid (ColsOk (cs.eraseIdx i)) := hid ((hok.cols hcs).perm erase_sub)
  have HDF : Hid (Diff (cs.eraseIdx i)) := hid (List.Pairwise.sublist (List.eraseIdx_sublist _ _) (diff_of hok.up))
  have HVLD := hid (fun W (hW : Below w.heap.size w W) => posting_Valid cs hok ev vv lv B W (hx.keep fun p (hp : p.block < B) => hW.cell (p := p) (by omega)) (by have := hW.size; omega))
  have HCO := hid (fun W (hW : Below w.heap.size w W) => posting_Column (indexOf cs) ev vv lv (cs.getD i Cv.z).1.1 ((cs.getD i Cv.z).1.2 : Int) B W (hx.keep fun p (hp : p.block < B) => hW.cell (p := p) (by omega)) (by have := hW.size; omega) (by rw [show (indexOf cs).ents.length = cs.length from ents_len cs]; have := hok.many; omega))
  have HF : Hid (findR (refsE (indexOf cs).ents) ((cs.getD i Cv.z).1.1, ((cs.getD i Cv.z).1.2 : Int)) 0 = (i : Int)) := hid (find_at hok hi)
  rw [HF.out] at HCO
  have HST := hid (fun W (hW : Below w.heap.size w W) => posting_sets cs hok ev vv lv B W (hx.keep fun p (hp : p.block < B) => hW.cell (p := p) (by omega)) (by have := hW.size; omega))
  have hmany := hok.many
  have HEL : Hid ((cs.eraseIdx i).length + 1 = cs.length) := hid (by rw [List.length_eraseIdx]; simp [hi]; omega)
  obtain ⟨ea, ec, rfl, -⟩ := hx.ents
  obtain ⟨va, vc, rfl, -⟩ := hx.vals
  obtain ⟨lf, ⟨la, lc, rfl, -⟩, -⟩ := hx.lists
  clear hx hok hcs HF
  generalize (indexOf cs).ents.length = n1 at *
  generalize (indexOf cs).vals.length = n2 at *
  generalize (indexOf cs).lists.length = n3 at *
  obtain ⟨n, hn⟩ : ∃ n, cs.length = n + 1 := ⟨cs.length - 1, by omega⟩
  have HN := hid hn
  rw [hn] at hi hmany
  clear hn
  generalize (cs.getD i Cv.z).1.1 = r1 at *
  generalize ((cs.getD i Cv.z).1.2 : Int) = r2 at *
  have HB3 : Hid (Below w.heap.size w (((w.alloc (.cells #[.slice ea n1 ec, .slice va n2 vc, .slice la n3 lc] 40)).alloc (.cells #[.int .i64 r1, .int .i64 r2] 47)).alloc (.cells #[.slice none 0 0, .slice none 0 0, .slice none 0 0] 40))) := hid (by have := Below.refl w.heap.size w; repeat' (first | (with_reducible exact Below.refl _ _) | (with_reducible assumption) | (with_reducible refine below_drewN ?_) | (with_reducible refine Below.alloc ?_ ?_ _) | (with_reducible refine Below.drew ?_) | (with_reducible refine Below.setCell ?_ ?_ _) | (with_reducible refine Below.trans ?_ (Below.mono (by with_reducible assumption) ?_)) | go_size))
  have HX3 := hid (((BoxN.new w #[.slice ea n1 ec, .slice va n2 vc, .slice la n3 lc] 40).alloc (.cells #[.int .i64 r1, .int .i64 r2] 47)).alloc (.cells #[.slice none 0 0, .slice none 0 0, .slice none 0 0] 40))
  have HR3 := hid ((BoxN.new (w.alloc (.cells #[.slice ea n1 ec, .slice va n2 vc, .slice la n3 lc] 40)) #[.int .i64 r1, .int .i64 r2] 47).alloc (.cells #[.slice none 0 0, .slice none 0 0, .slice none 0 0] 40))
  have HO3 := hid (BoxN.new ((w.alloc (.cells #[.slice ea n1 ec, .slice va n2 vc, .slice la n3 lc] 40)).alloc (.cells #[.int .i64 r1, .int .i64 r2] 47)) #[.slice none 0 0, .slice none 0 0, .slice none 0 0] 40)
  rw [World.size_alloc] at HR3
  rw [World.size_alloc, World.size_alloc] at HO3
  go_enter Tryz.func36, Tryz.ntmps36
  go_upto_region 1 with fail
  generalize ((w.alloc (.cells #[.slice ea n1 ec, .slice va n2 vc, .slice la n3 lc] 40)).alloc (.cells #[.int .i64 r1, .int .i64 r2] 47)).alloc (.cells #[.slice none 0 0, .slice none 0 0, .slice none 0 0] 40) = W3 at *
  have x0 := HX3.out.cell 0 rfl
  have x1 := HX3.out.cell 1 rfl
  have x2 := HX3.out.cell 2 rfl
  go_wp2_with fail
  with_reducible refine (HVLD.out _ HB3.out).mono ?_
  rintro e w4 ⟨rfl, hb4⟩
  have HB4 := hid (HB3.out.trans (hb4.mono HB3.out.size))
  have HX4 := hid (HX3.out.below hb4 HX3.out.lt)
  have HR4 := hid (HR3.out.below hb4 HR3.out.lt)
  have HO4 := hid (HO3.out.below hb4 HO3.out.lt)
  clear hb4 x0 x1 x2 HVLD HB3 HX3 HR3 HO3
  have x0 := HX4.out.cell 0 rfl
  have x1 := HX4.out.cell 1 rfl
  have x2 := HX4.out.cell 2 rfl
  have r0 := HR4.out.cell 0 rfl
  have r1' := HR4.out.cell 1 rfl
  go_wp2_with fail
  with_reducible refine (HCO.out _ HB4.out).mono ?_
  rintro e w7 ⟨rfl, hb7⟩
  have HB7 := hid (HB4.out.trans (hb7.mono HB4.out.size))
  have HX7 := hid (HX4.out.below hb7 HX4.out.lt)
  have HO7 := hid (HO4.out.below hb7 HO4.out.lt)
  clear hb7 x0 x1 x2 r0 r1' HCO HB4 HX4 HR4 HO4
  have hd0 : decide ((i : Int) < 0) = false := decide_eq_false (by omega)
  have x0 := HX7.out.cell 0 rfl
  have x1 := HX7.out.cell 1 rfl
  have x2 := HX7.out.cell 2 rfl
  have hz7 := HB7.out.size
  have hoz := HO7.out.lt
  go_wp2_with fail
  with_reducible refine (HST.out _ HB7.out).mono ?_
  rintro e ws ⟨vs, rfl, hcv, hbs⟩
  obtain ⟨sa, sc, L0, rfl, hL0⟩ := hcv.form HN.out
  obtain ⟨g, cap, e1, hg1, hg2⟩ := hL0.form (by omega)
  have hgb := (hL0.lt g (by rw [e1]; rfl)).1
  rw [e1] at hcv ⊢
  have HDEL := hid (delete_set cs _ g n cap i ws HN.out hi (by omega) hcv)
  have HOs := hid (HO7.out.below hbs HO7.out.lt)
  have HBs := hid (HB7.out.trans (hbs.mono HB7.out.size))
  have hzs := hbs.size
  clear hbs hcv hL0 e1 x0 x1 x2 HST
  go_wp2_with fail
  with_reducible refine HDEL.out.mono ?_
  rintro e w8 ⟨rfl, hcv8, hg8⟩
  have HIX := hid (posting_indexed (cs.eraseIdx i) _ g n cap w8 (by have := HEL.out; have := HN.out; omega) (by omega) hcv8 HAL.out.sets HAL.out.len (fun c hc s hs => HAL.out.str c hc s hs))
  have HO8 := hid (HOs.out.grown hg8 (fun e => by injection e with e; omega))
  have HB8 := hid (below_grown HBs.out hg8 (fun k hk => by injection hk with hk; omega))
  have hz8 := hg8.size
  clear hcv8 hg8 HDEL
  go_wp2_with fail
  with_reducible refine HIX.out.mono ?_
  rintro e w9 ⟨cs', ev', vv', lv', hp9, hu9, rfl, hrx9, hg9⟩
  obtain ⟨ea9, ec9, rfl, -⟩ := hrx9.ents
  obtain ⟨va9, vc9, rfl, -⟩ := hrx9.vals
  obtain ⟨lf9, ⟨la9, lc9, rfl, -⟩, -⟩ := hrx9.lists
  have ho9 := HO8.out.grown hg9 (fun e => by injection e with e; omega)
  have o0 := ho9.cell 0 rfl
  have o1 := ho9.cell 1 rfl
  have o2 := ho9.cell 2 rfl
  have o3 := ho9.frozen 0
  have o4 := ho9.frozen 1
  have o5 := ho9.frozen 2
  have HO9 := hid ho9
  have HB9 := hid (below_grown HB8.out hg9 (fun k hk => by injection hk with hk; omega))
  have HP9 := hid hp9
  have HU9 := hid hu9
  have HRX9 := hid hrx9
  clear ho9 hg9 hp9 hu9 hrx9 HIX
  go_wp2_with fail
  have HPM := HP9.out
  have HDF9 := HDF.out.perm HPM
  have HUP9 := up_of HU9.out HDF9
  have HCO9 : Hid (CvsOk cs' ∧ StrOk cs') := hid ⟨(HAL.out.perm fun c hc => HPM.mem_iff.1 hc).cvs HUP9 (by rw [HPM.length_eq]; have := HN.out; have := HEL.out; omega), fun c hc => HAL.out.str c (HPM.mem_iff.1 hc)⟩
  clear HPM HDF9 HUP9 o0 o1 o2 o3 o4 o5
  have hq := ((HO9.out.set 0 (.slice ea9 (indexOf cs').ents.length ec9)).set 1 (.slice va9 (indexOf cs').vals.length vc9)).set 2 (.slice la9 (indexOf cs').lists.length lc9)
  have q0 := hq.cell 0 rfl
  have q1 := hq.cell 1 rfl
  have q2 := hq.cell 2 rfl
  clear hq
  refine bodyPost_ret (v := okV (.agg #[.slice ea9 (indexOf cs').ents.length ec9, .slice va9 (indexOf cs').vals.length vc9, .slice la9 (indexOf cs').lists.length lc9])) (by simp [results, Tryz.results36, go_sem, q0, q1, q2]; done) rfl ⟨cs', _, _, _, HCO9.out.1, HCO9.out.2, HP9.out, rfl, ?_, ?_⟩
  · exact ix_stored HRX9.out HB9.out (by omega) (by omega) _ _ _
  · exact ((HB9.out.setCell (by show w.heap.size ≤ w.heap.size + 1 + 1; omega) _).setCell (by show w.heap.size ≤ w.heap.size + 1 + 1; omega) _).setCell (by show w.heap.size ≤ w.heap.size + 1 + 1; omega) _

end Go.Proofs.YtabemneoobbnaaaGreatDoor
