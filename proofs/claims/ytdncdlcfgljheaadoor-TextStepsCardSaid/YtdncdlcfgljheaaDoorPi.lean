/- The groups of a text, as the program goes through them: contract of the iterator. -/
import Derived.Shelf.Abstract
import Derived.LoopNIn
import Derived.LoopIn
import Derived.Lib.TrimU
import Derived.Test.YtdncdlcfgljheaaDoorRn
import Derived.Test.YtdncdlcfgljheaaDoorPc
import Derived.Test.YtdncdlcfgljheaaDoorGa
namespace Go.Proofs.YtdncdlcfgljheaaDoor
open Go.RowKit Go.Shelf

attribute [local go_sem] Oper.semAt_some

def encG (x : Nat × Nat) : Value := .agg #[.int .i32 (x.1 : Int), .bool (runC x.1), .int .i64 (x.2 : Int)]
/-- a group's block, not older than 'n₀' -/
def GrpG (n₀ : Nat) (W : World) (r : Nat) : Prop := n₀ ≤ r ∧ ∃ cs : Array Value, W.heap[r]? = some (Obj.cells cs 68 (0, 0))
/-- what a round keeps -/
structure KpG (W W' : World) : Prop where
  size : W.heap.size ≤ W'.heap.size
  walks : ∀ (k : Nat) (o : Obj), W.heap[k]? = some o → o.isWalk = true → W'.heap[k]? = some o
  groups : ∀ (k : Nat) (cs : Array Value), W.heap[k]? = some (Obj.cells cs 68 (0, 0)) → W'.heap[k]? = some (Obj.cells cs 68 (0, 0))
theorem KpG.trans {A B C : World} (h : KpG A B) (k : KpG B C) : KpG A C :=
  ⟨Nat.le_trans h.size k.size, fun i o hi ho => k.walks i o (h.walks i o hi ho) ho, fun i cs hi => k.groups i cs (h.groups i cs hi)⟩

theorem GrpG.set {n₀ : Nat} {W : World} {r : Nat} (h : GrpG n₀ W r) (o : Nat) (v : Value) : GrpG n₀ (W.setCell ⟨r, o, none⟩ v) r := by
  obtain ⟨h1, cs, h2⟩ := h
  exact ⟨h1, _, heap_setCell_same W r o cs _ v h2⟩
theorem grownBy_iterAt (W : World) (k : Nat) (s : ByteArray) (p : Nat) : W.grownBy (W.iterAt k s p) (some k) :=
  ⟨rfl, rfl, rfl, by rw [Lib.iterAt_size]; exact Nat.le_refl _, fun j _ hj => Lib.iterAt_other W k j s p (fun e => hj (by rw [e]))⟩

/-- the iterator's own two blocks -/
structure GrpAt (gb it : Nat) (v0 v1 v2 : Value) (s : ByteArray) (pos : Nat) (W : World) : Prop where
  here : W.heap[gb]? = some (.cells #[v0, v1, v2] 68 (0, 0))
  iter : W.heap[it]? = some (.stringIter s pos)
section
variable {gb it : Nat} {v0 v1 v2 : Value} {s : ByteArray} {pos : Nat} {W : World}
theorem GrpAt.c0 (h : GrpAt gb it v0 v1 v2 s pos W) : W.cell? ⟨gb, 0, none⟩ = some v0 := by simp [World.cell?, h.here]
theorem GrpAt.c1 (h : GrpAt gb it v0 v1 v2 s pos W) : W.cell? ⟨gb, 1, none⟩ = some v1 := by simp [World.cell?, h.here]
theorem GrpAt.c2 (h : GrpAt gb it v0 v1 v2 s pos W) : W.cell? ⟨gb, 2, none⟩ = some v2 := by simp [World.cell?, h.here]
theorem GrpAt.fr (h : GrpAt gb it v0 v1 v2 s pos W) (o : Nat) : W.frozen? ⟨gb, o, none⟩ = false := by simp [World.frozen?, h.here]
theorem GrpAt.next (h : GrpAt gb it v0 v1 v2 s pos W) (hne : gb ≠ it) (p : Nat) : GrpAt gb it v0 v1 v2 s p (W.iterAt it s p) :=
  ⟨(Lib.iterAt_other W it gb s p hne).trans h.here, Lib.iterAt_heap W it s pos p h.iter⟩
theorem GrpAt.keep {W' : World} (h : GrpAt gb it v0 v1 v2 s pos W) (hk : KpG W W') : GrpAt gb it v0 v1 v2 s pos W' :=
  ⟨hk.groups _ _ h.here, hk.walks _ _ h.iter rfl⟩
theorem GrpAt.set2 (h : GrpAt gb it v0 v1 v2 s pos W) (hne : gb ≠ it) (u : Value) : GrpAt gb it v0 v1 u s pos (W.setCell ⟨gb, 2, none⟩ u) :=
  ⟨by rw [heap_setCell_same W gb 2 _ _ u h.here]; rfl, (Below.heap_setCell _ _ _ _ (Ne.symm hne)).trans h.iter⟩
theorem GrpAt.set3 (h : GrpAt gb it v0 v1 v2 s pos W) (hne : gb ≠ it) (u0 u1 u2 : Value) : GrpAt gb it u0 u1 u2 s pos (((W.setCell ⟨gb, 0, none⟩ u0).setCell ⟨gb, 1, none⟩ u1).setCell ⟨gb, 2, none⟩ u2) := by
  have h1 : (W.setCell ⟨gb, 0, none⟩ u0).heap[gb]? = some (.cells #[u0, v1, v2] 68 (0, 0)) := by rw [heap_setCell_same W gb 0 _ _ u0 h.here]; rfl
  have h2 : ((W.setCell ⟨gb, 0, none⟩ u0).setCell ⟨gb, 1, none⟩ u1).heap[gb]? = some (.cells #[u0, u1, v2] 68 (0, 0)) := by rw [heap_setCell_same _ gb 1 _ _ u1 h1]; rfl
  exact ⟨by rw [heap_setCell_same _ gb 2 _ _ u2 h2]; rfl, (Below.heap_setCell _ _ _ _ (Ne.symm hne)).trans ((Below.heap_setCell _ _ _ _ (Ne.symm hne)).trans ((Below.heap_setCell _ _ _ _ (Ne.symm hne)).trans h.iter))⟩
theorem GrpAt.grp {n₀ : Nat} (h : GrpAt gb it v0 v1 v2 s pos W) (hn : n₀ ≤ gb) : GrpG n₀ W gb := ⟨hn, _, h.here⟩
theorem abides3 {n₀ : Nat} {α : Type} {J : α → World → Prop} (hJ : AbidesG (GrpG n₀) J) {x : α} (hj : J x W) (hg : GrpG n₀ W gb) (u0 u1 u2 : Value) : J x (((W.setCell ⟨gb, 0, none⟩ u0).setCell ⟨gb, 1, none⟩ u1).setCell ⟨gb, 2, none⟩ u2) :=
  hJ _ _ _ _ _ (hJ _ _ _ _ _ (hJ _ _ _ _ _ hj hg) (hg.set 0 u0)) ((hg.set 0 u0).set 1 u1)
end

theorem grpRest_zero (c : Nat) (ks : List Nat) : grpRest c 0 ks = groupsOf ks := if_pos rfl
theorem grpRest_nil (c n : Nat) (h : 0 < n) : grpRest c n [] = [(c, n)] := by unfold grpRest; rw [if_neg (by omega)]; rfl
theorem grpRest_first (c k : Nat) (ks : List Nat) : grpRest c 0 (k :: ks) = grpRest k 1 ks := by unfold grpRest; rw [if_pos rfl, if_neg (by omega)]; rfl
theorem grpRest_same (c n : Nat) (ks : List Nat) (h : 0 < n) : grpRest c n (c :: ks) = grpRest c (n + 1) ks := by
  unfold grpRest; rw [if_neg (by omega), if_neg (by omega), grpF, if_pos rfl]
theorem grpRest_other (c n k : Nat) (ks : List Nat) (h : 0 < n) (hk : k ≠ c) : grpRest c n (k :: ks) = (c, n) :: grpRest k 1 ks := by
  unfold grpRest; rw [if_neg (by omega), if_neg (by omega), grpF, if_neg hk]

set_option maxRecDepth 100000 in
set_option maxHeartbeats 4000000 in
theorem groups1_in (n : Nat) (hn : 1 ≤ n) (l Bs n₀ : Nat) (s : ByteArray) (hs : s.size ≤ 1073741824) (J Jx : List (Nat × Nat) → World → Prop) (W : World) (hn₀ : n₀ ≤ W.heap.size) (hJ : AbidesFrom W.heap.size J) (hJx : AbidesFrom W.heap.size Jx) (hJc : AbidesG (GrpG n₀) J) (hJxc : AbidesG (GrpG n₀) Jx)
    (hY : ∀ pre x W1, J pre W1 → pre ++ [x] <+: groupsOf ((pts s).map clsN) → YieldAt Fence.wide (n - 1) Tryd.prog l #[encG x] W1 fun e W' =>
      (e = .returned (.bool true) ∧ J (pre ++ [x]) W' ∧ KpG W1 W') ∨ (e = .returned (.bool false) ∧ Jx (pre ++ [x]) W'))
    (hBs : W.cell? ⟨Bs, 0, none⟩ = some (.string s)) (h0 : J [] W) :
    CallsIn Fence.wide n Tryd.prog 72 #[.func (.yield l) #[] #[], .pointer (some ⟨Bs, 0, none⟩)] W fun e W' => (∃ v, e = .returned v) ∧
      ((∃ ys, ys = groupsOf ((pts s).map clsN) ∧ J ys W') ∨ (∃ pre, pre <+: groupsOf ((pts s).map clsN) ∧ Jx pre W')) := by
  have hBl := World.block_lt_of_cell? _ _ hBs
  have HJ := hid hJ
  have HJX := hid hJx
  have HJC := hid hJc
  have HJXC := hid hJxc
  have HY := hid hY
  have H0 := hid h0
  clear hJ hJx hJc hJxc hY h0
  refine callsIn_of_wp Tryd.func72 rfl trivial ?_ rfl
  simp only [Tryd.ntmps72, List.size_toArray, List.length_cons, List.length_nil, Nat.reduceAdd, Nat.reduceSub, Array.replicate_succ, Array.replicate_zero, List.push_toArray, List.append_toArray, List.nil_append, List.cons_append]
  gi_wp2
  gi_loopw [5] (fun v wr => ∃ (pos b c m : Nat) (sh : Bool) (pre : List (Nat × Nat)), GrpAt W.heap.size (W.heap.size + 1) (.int .i32 (c : Int)) (.bool sh) (.int .i64 (m : Int)) s pos wr ∧ Hid (pre ++ grpRest c m ((ptsFrom s b pos).map clsN) = groupsOf ((pts s).map clsN)) ∧ s.size ≤ pos + b ∧ m ≤ pos ∧ Hid ((m = 0 ∧ sh = false) ∨ (0 < m ∧ sh = runC c)) ∧ Hid (J pre wr) ∧ W.heap.size + 1 < wr.heap.size) (fun _ wr => s.size - wr.iterPos (W.heap.size + 1))
  case atStart =>
    refine ⟨0, s.size, 0, 0, false, [], ⟨?_, ?_⟩, hid (by rw [grpRest_zero]; rfl), by omega, by omega, hid (.inl ⟨rfl, rfl⟩), hid ?_, by simp [World.iter]⟩
    · exact (Below.heap_alloc _ _ _ (by simp)).trans (World.alloc_heap_new W _)
    · have h := World.alloc_heap_new (W.alloc (.cells #[.int .i32 0, .bool false, .int .i64 0] 68)) (.stringIter s 0)
      rw [World.size_alloc] at h
      exact h
    · exact HJ.out _ _ _ none (HJ.out _ _ _ none H0.out (World.grownBy_alloc W _ none) (fun r e => by cases e)) (World.grownBy_alloc _ _ none) (fun r e => by cases e)
  case round =>
    obtain ⟨pos, b, c, m, sh, pre, hat, htot, hb, hm, hsh, hj, hz⟩ := hrel
    have HAT := hid hat
    have hit := hat.iter
    have HP := hid (iterPos_of hit)
    by_cases hp : pos < s.size
    · obtain ⟨b, rfl⟩ : ∃ b', b = b' + 1 := ⟨b - 1, by omega⟩
      have hnx : ∀ ty, (Instr.next (.pointer (some ⟨W.heap.size + 1, 0, none⟩)) true ty).run Tryd.prog wr = _ := fun ty => Lib.run_next_any_at wr (W.heap.size + 1) s pos ty hit hp
      have hwd := Lib.decode_width_pos s pos hp
      have hle := decode_le s pos
      have hrl := Lib.rune_le s pos
      have HA2 := hid (hat.next (by omega) (pos + (Utf8.decode s pos).2))
      have HJ2 := hid (HJ.out _ _ _ _ hj.out (grownBy_iterAt wr (W.heap.size + 1) s (pos + (Utf8.decode s pos).2)) (fun r e => by cases e; exact ⟨by omega, _, hit, rfl⟩))
      have ht := htot.out
      rw [ptsFrom_next s b pos hp, List.map_cons] at ht
      have HT := hid ht
      have hz2 : W.heap.size + 1 < (wr.iterAt (W.heap.size + 1) s (pos + (Utf8.decode s pos).2)).heap.size := by rw [Lib.iterAt_size]; exact hz
      have HCL := hid (fun W' => text_class (Utf8.decode s pos).1 (by omega) W')
      clear hit hat htot ht hj
      generalize (Utf8.decode s pos).1 = r at *
      generalize (Utf8.decode s pos).2 = wd at *
      generalize wr.iterAt (W.heap.size + 1) s (pos + wd) = W2 at *
      generalize clsN r = k at *
      have g0 := HA2.out.c0
      have g1 := HA2.out.c1
      have g2 := HA2.out.c2
      have f0 := HA2.out.fr 0
      have f1 := HA2.out.fr 1
      have f2 := HA2.out.fr 2
      gi_wp2
      refine ⟨trivial, (callsIn_wide.2 (HCL.out _)).mono ?_⟩
      rintro e w' ⟨rfl, rfl⟩
      rcases Nat.eq_zero_or_pos m with rfl | hm0
      · have HA3 := hid (HA2.out.set3 (by omega) (.int .i32 (k : Int)) (.bool (runC k)) (.int .i64 1))
        have HJ3 := hid (abides3 HJC.out HJ2.out (HA2.out.grp hn₀) (.int .i32 (k : Int)) (.bool (runC k)) (.int .i64 1))
        have HT3 : Hid (pre ++ grpRest k 1 ((ptsFrom s b (pos + wd)).map clsN) = groupsOf ((pts s).map clsN)) := hid (by rw [← grpRest_first c]; exact HT.out)
        have HPN := hid (iterPos_of HA3.out.iter)
        gi_wp2
        go_roundw
        case rel => exact ⟨pos + wd, b, k, 1, runC k, pre, HA3.out, HT3.out, by omega, by omega, hid (.inr ⟨by omega, rfl⟩), hid HJ3.out, by simp; omega⟩
        case measure => rw [HPN.out, HP.out]; omega
      · obtain rfl : sh = runC c := by
          rcases hsh.out with ⟨h, _⟩ | ⟨_, h⟩
          · omega
          · exact h
        by_cases hkc : k = c
        · subst hkc
          have HA3 := hid (HA2.out.set3 (by omega) (.int .i32 (k : Int)) (.bool (runC k)) (.int .i64 ((m + 1 : Nat) : Int)))
          have HJ3 := hid (abides3 HJC.out HJ2.out (HA2.out.grp hn₀) (.int .i32 (k : Int)) (.bool (runC k)) (.int .i64 ((m + 1 : Nat) : Int)))
          have HT3 : Hid (pre ++ grpRest k (m + 1) ((ptsFrom s b (pos + wd)).map clsN) = groupsOf ((pts s).map clsN)) := hid (by rw [← grpRest_same k m _ hm0]; exact HT.out)
          have HPN := hid (iterPos_of HA3.out.iter)
          rw [show ((m + 1 : Nat) : Int) = (m : Int) + 1 from by omega] at HA3 HJ3 HPN
          gi_wp2
          go_roundw
          case rel => exact ⟨pos + wd, b, k, m + 1, runC k, pre, by rw [show ((m + 1 : Nat) : Int) = (m : Int) + 1 from by omega]; exact HA3.out, HT3.out, by omega, by omega, hid (.inr ⟨by omega, rfl⟩), hid HJ3.out, by simp; omega⟩
          case measure => rw [HPN.out, HP.out]; omega
        · have hne : ((k : Int) == (c : Int)) = false := by simp; omega
          have hne2 : ((k : Int) != (c : Int)) = true := by simp; omega
          have HT3 : Hid (pre ++ [(c, m)] ++ grpRest k 1 ((ptsFrom s b (pos + wd)).map clsN) = groupsOf ((pts s).map clsN)) := hid (by rw [List.append_assoc, List.singleton_append, ← grpRest_other c m k _ hm0 hkc]; exact HT.out)
          have hplen : pre ++ [(c, m)] <+: groupsOf ((pts s).map clsN) := ⟨_, HT3.out⟩
          clear hkc
          obtain ⟨fn, tmps, assign, body, hy, hR⟩ := HY.out pre (c, m) W2 HJ2.out hplen
          dsimp only [encG] at hy
          gi_wp2
          refine hR.mono ?_
          rintro e W3 (⟨rfl, hJ3, hk3⟩ | ⟨rfl, hJx3⟩)
          · have HA3 := hid (HA2.out.keep hk3)
            have HA4 := hid (HA3.out.set2 (by omega) (.int .i64 0))
            have HA5 := hid (HA4.out.set3 (by omega) (.int .i32 (k : Int)) (.bool (runC k)) (.int .i64 1))
            have HJ4 := hid (HJC.out _ _ _ 2 (.int .i64 0) hJ3 (HA3.out.grp hn₀))
            have HJ5 := hid (abides3 HJC.out HJ4.out (HA4.out.grp hn₀) (.int .i32 (k : Int)) (.bool (runC k)) (.int .i64 1))
            have HPN := hid (iterPos_of HA5.out.iter)
            have hz3 := hk3.size
            have y0 := HA3.out.c0
            have y1 := HA3.out.c1
            have y2 := HA3.out.c2
            have q0 := HA3.out.fr 0
            have q1 := HA3.out.fr 1
            have q2 := HA3.out.fr 2
            clear hJ3 hk3 hy
            gi_wp2
            go_roundw
            case rel => exact ⟨pos + wd, b, k, 1, runC k, pre ++ [(c, m)], HA5.out, HT3.out, by omega, by omega, hid (.inr ⟨by omega, rfl⟩), hid HJ5.out, by simp; omega⟩
            case measure => rw [HPN.out, HP.out]; omega
          · gi_wp2
            refine bodyPost_ret (results_none rfl _ _ _) rfl ?_
            exact ⟨⟨_, rfl⟩, .inr ⟨pre ++ [(c, m)], ⟨_, HT3.out⟩, hJx3⟩⟩
    · have hnx : ∀ ty, (Instr.next (.pointer (some ⟨W.heap.size + 1, 0, none⟩)) true ty).run Tryd.prog wr = _ := fun ty => Lib.run_next_end_at wr (W.heap.size + 1) s pos ty hit hp
      have ht := htot.out
      rw [ptsFrom_end s b pos hp, List.map_nil] at ht
      have HT := hid ht
      have g0 := HAT.out.c0
      have g1 := HAT.out.c1
      have g2 := HAT.out.c2
      clear hit hat htot ht
      rcases Nat.eq_zero_or_pos m with rfl | hm0
      · have HFIN : Hid (pre = groupsOf ((pts s).map clsN)) := hid (by rw [← HT.out, grpRest_zero]; simp [groupsOf])
        gi_wp2
        go_end0
        exact ⟨⟨_, rfl⟩, .inl (by rw [← HFIN.out]; exact hj.out)⟩
      · obtain rfl : sh = runC c := by
          rcases hsh.out with ⟨h, _⟩ | ⟨_, h⟩
          · omega
          · exact h
        have HFIN : Hid (pre ++ [(c, m)] = groupsOf ((pts s).map clsN)) := hid (by rw [← HT.out, grpRest_nil _ _ hm0])
        have hplen : pre ++ [(c, m)] <+: groupsOf ((pts s).map clsN) := ⟨[], by rw [List.append_nil]; exact HFIN.out⟩
        obtain ⟨fn, tmps, assign, body, hy, hR⟩ := HY.out pre (c, m) wr hj.out hplen
        dsimp only [encG] at hy
        gi_wp2
        refine hR.mono ?_
        rintro e W3 (⟨rfl, hJ3, hk3⟩ | ⟨rfl, hJx3⟩)
        · gi_wp2
          go_end0
          exact ⟨⟨_, rfl⟩, .inl ⟨pre ++ [(c, m)], HFIN.out, hJ3⟩⟩
        · gi_wp2
          go_end0
          exact ⟨⟨_, rfl⟩, .inr ⟨pre ++ [(c, m)], ⟨[], by rw [List.append_nil]; exact HFIN.out⟩, hJx3⟩⟩

end Go.Proofs.YtdncdlcfgljheaaDoor
