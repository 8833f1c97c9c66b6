/- Plain of OverlapKnown: reading more never makes it less certain. law19's query; plain of OverlapFirst. -/
import Derived.Test.YtikiimlmoalbcaaGreatDoorOKnbn
import Derived.Test.YtikiimlmoalbcaaGreatDoorOKnbp
import Derived.Test.YtikiimlmoalbcaaGreatDoorOKnbj
set_option linter.unusedVariables false
set_option linter.unusedSimpArgs false
namespace Go.Proofs.YtikiimlmoalbcaaGreatDoor
open Go.RowKit
theorem count_more (a r r' f : ByteArray → Bool) (h : ∀ v, r v = true → r' v = true) : ∀ q : List ByteArray, List.countP (fun v => a v && (r' v && f v)) q + List.countP (fun v => a v && !r' v) q ≤ List.countP (fun v => a v && (r v && f v)) q + List.countP (fun v => a v && !r v) q
 | [] => by simp
 | v :: q => by
  have ih := count_more a r r' f h q
  have h1 := h v
  rw [List.countP_cons, List.countP_cons, List.countP_cons, List.countP_cons]
  cases e1 : a v <;> cases e2 : r v <;> cases e3 : r' v <;> cases e4 : f v <;> simp_all <;> omega
theorem readB_more {cs : List Cv} {L M : List Nat} (h : ∀ x ∈ L, x ∈ M) (v : ByteArray) (hr : readB cs L v = true) : readB cs M v = true := by
 unfold readB at *
 rw [List.any_eq_true] at *
 obtain ⟨i, hi, e⟩ := hr
 exact ⟨i, h i hi, e⟩
theorem bnd_more {cs : List Cv} {q : List ByteArray} {L M K : List Nat} (h : ∀ x ∈ L, x ∈ M) (c : Nat) : (bndB cs q L K c).1 ≤ (bndB cs q M K c).1 ∧ (bndB cs q M K c).2 ≤ (bndB cs q L K c).2 := by
 unfold bndB
 by_cases hc : c ∈ K
 ·rw [if_pos hc, if_pos hc]
  exact ⟨Nat.le_refl _, Nat.le_refl _⟩
 ·rw [if_neg hc, if_neg hc]
  simp only
  have h1 : lowB cs q L c ≤ lowB cs q M c := by
   unfold lowB
   rw [← List.countP_eq_length_filter, ← List.countP_eq_length_filter]
   refine List.countP_mono_left fun v _ hv => ?_
   rw [Bool.and_eq_true, Bool.and_eq_true] at *
   exact ⟨hv.1, readB_more h v hv.2.1, hv.2.2⟩
  have h2 : lowB cs q M c + openB cs q M ≤ lowB cs q L c + openB cs q L := by
   unfold lowB openB
   rw [← List.countP_eq_length_filter, ← List.countP_eq_length_filter, ← List.countP_eq_length_filter, ← List.countP_eq_length_filter]
   exact count_more _ _ _ _ (fun v => readB_more h v) q
  omega
def insL (L : List Nat) (i : Nat) : List Nat := L.filter (fun x => decide (x < i)) ++ i :: L.filter (fun x => decide (i < x))
theorem insL_sub {L : List Nat} {i : Nat} : ∀ x ∈ L, x ∈ insL L i := fun x hx => by
 unfold insL
 rcases Nat.lt_trichotomy x i with h | h | h
 ·exact List.mem_append.2 (.inl (List.mem_filter.2 ⟨hx, decide_eq_true h⟩))
 ·exact List.mem_append.2 (.inr (List.mem_cons.2 (.inl h)))
 ·exact List.mem_append.2 (.inr (List.mem_cons.2 (.inr (List.mem_filter.2 ⟨hx, decide_eq_true h⟩))))
theorem insL_mem {L : List Nat} {i x : Nat} (h : x ∈ insL L i) : x ∈ L ∨ x = i := by
 unfold insL at h
 rcases List.mem_append.1 h with h | h
 ·exact .inl (List.mem_filter.1 h).1
 ·rcases List.mem_cons.1 h with h | h
  ·exact .inr h
  ·exact .inl (List.mem_filter.1 h).1
theorem insL_asc {L : List Nat} (h : L.Pairwise (· < ·)) (i : Nat) : (insL L i).Pairwise (· < ·) := by
 unfold insL
 rw [List.pairwise_append, List.pairwise_cons]
 refine ⟨h.sublist List.filter_sublist, ⟨fun x hx => of_decide_eq_true (List.mem_filter.1 hx).2, h.sublist List.filter_sublist⟩, fun x hx y hy => ?_⟩
 have h1 := of_decide_eq_true (List.mem_filter.1 hx).2
 rcases List.mem_cons.1 hy with rfl | hy
 ·exact h1
 ·have h2 := of_decide_eq_true (List.mem_filter.1 hy).2
  omega
def insP (L : List Nat) (i p : Nat) : List Nat × Bool :=
  if (L.take p).all (fun x => decide (x < i)) then (L.take p, false) else (insL (L.take p) i, true)
theorem insL_small {L : List Nat} {i : Nat} (h : ∀ x ∈ L, x < i) : insL L i = L ++ [i] := by
 unfold insL
 rw [List.filter_eq_self.2 fun x hx => decide_eq_true (h x hx), List.filter_eq_nil_iff.2 fun x hx e => by have := of_decide_eq_true e; have := h x hx; omega]
theorem insP_zero (L : List Nat) (i : Nat) : insP L i 0 = ([], false) := rfl
theorem insP_end {L : List Nat} {i : Nat} : (if (insP L i L.length).2 then (insP L i L.length).1 else (insP L i L.length).1 ++ [i]) = insL L i := by
 unfold insP
 rw [List.take_length]
 split
 ·rename_i h
  rw [List.all_eq_true] at h
  exact (insL_small fun x hx => of_decide_eq_true (h x hx)).symm
 ·rfl
theorem take_snoc {L : List Nat} {p : Nat} (hp : p < L.length) : L.take (p + 1) = L.take p ++ [L.getD p 0] := by
 rw [List.take_add_one, List.getElem?_eq_getElem hp, ← List.getElem_eq_getD (h := hp)]
 rfl
theorem insP_step {L : List Nat} (h : L.Pairwise (· < ·)) (i : Nat) {p : Nat} (hp : p < L.length) :
  let n := L.getD p 0
  let s := insP L i p
  insP L i (p + 1) = (let t := if i ≤ n ∧ s.2 = false then s.1 ++ [i] else s.1; (if n = i then t else t ++ [n]), s.2 || decide (i ≤ n)) := by
 intro n s
 have e1 := take_snoc hp
 have hlt : ∀ x ∈ L.take p, x < n := fun x hx => by
  obtain ⟨j, hj, rfl⟩ := List.getElem_of_mem hx
  rw [List.length_take] at hj
  have h5 := List.pairwise_iff_getElem.1 h j p (by omega) hp (by omega)
  rw [List.getElem_take]
  show L[j] < L.getD p 0
  rw [← List.getElem_eq_getD (h := hp)]
  exact h5
 have hn : L.getD p 0 = n := rfl
 rw [hn] at e1
 clear_value n
 by_cases ha : (L.take p).all (fun x => decide (x < i)) = true
 ·have hs : s = (L.take p, false) := by show insP L i p = _; unfold insP; rw [if_pos ha]
  rw [hs]
  have ha' : ∀ x ∈ L.take p, x < i := fun x hx => of_decide_eq_true (List.all_eq_true.1 ha x hx)
  unfold insP
  rw [e1, List.all_append, ha]
  simp only [List.all_cons, List.all_nil, Bool.and_true, Bool.true_and, Bool.false_or, and_true]
  by_cases hni : n < i
  ·rw [if_pos (decide_eq_true hni), if_neg (by omega), if_neg (by omega), decide_eq_false (by omega : ¬ i ≤ n)]
  ·rw [if_neg (by simp; omega), decide_eq_true (by omega : i ≤ n), if_pos (by omega : i ≤ n)]
   congr 1
   unfold insL
   rw [List.filter_append, List.filter_append, List.filter_eq_self.2 fun x hx => decide_eq_true (ha' x hx), (List.filter_eq_nil_iff.2 fun x hx e => by have := of_decide_eq_true e; have := ha' x hx; omega : (L.take p).filter (fun x => decide (i < x)) = [])]
   rw [List.filter_cons, if_neg (by simp; omega), List.filter_nil, List.append_nil, List.nil_append, List.filter_cons, List.filter_nil]
   by_cases he : n = i
   ·rw [if_neg (by simp; omega), if_pos he]
   ·rw [if_pos (by simp; omega), if_neg he, List.append_assoc]
    rfl
 ·have hs : s = (insL (L.take p) i, true) := by show insP L i p = _; unfold insP; rw [if_neg ha]
  rw [hs]
  have hin : i ≤ n := by
   rw [List.all_eq_true] at ha
   rcases Nat.lt_or_ge n i with h1 | h1
   ·exact absurd (fun x hx => decide_eq_true (Nat.lt_trans (hlt x hx) h1)) ha
   ·exact h1
  have hne : ∃ x ∈ L.take p, i ≤ x := by
   rcases Classical.em (∃ x ∈ L.take p, i ≤ x) with h1 | h1
   ·exact h1
   ·exact absurd (List.all_eq_true.2 fun x hx => decide_eq_true (by rcases Nat.lt_or_ge x i with h2 | h2; exact h2; exact absurd ⟨x, hx, h2⟩ h1)) ha
  have hni : i < n := by
   obtain ⟨x, hx, h1⟩ := hne
   have := hlt x hx
   omega
  unfold insP
  rw [e1, List.all_append, if_neg (by rw [Bool.and_eq_true]; exact fun h1 => ha h1.1)]
  simp only [Bool.true_or, Bool.true_eq_false, and_false, if_false]
  rw [if_neg (by omega)]
  congr 1
  unfold insL
  rw [List.filter_append, List.filter_append, List.filter_cons, if_neg (by simp; omega), List.filter_nil, List.append_nil, List.filter_cons, if_pos (by simp; omega), List.filter_nil, List.append_assoc]
  rfl
end Go.Proofs.YtikiimlmoalbcaaGreatDoor

namespace Go.Proofs.YtikiimlmoalbcaaGreatDoor
open Go.RowKit
def Q19P (w : World) (g : Nat) (e : Ending) (w' : World) : Prop :=
  ∃ (a : Option Addr) (c : Nat) (q : List ByteArray), e = .returned (.slice a q.length c) ∧ w'.ownsRow w.heap.size 9 1 (.slice a q.length c) q.length (q.map Value.string) ∧ Asc q ∧ q.length ≤ 65540 ∧ DiceAt 89 w' g ∧ Roll w.heap.size g w w'
set_option maxRecDepth 100000 in
set_option maxHeartbeats 4000000 in
theorem law19_query (g : Nat) (ev vv lv : Value) (ix : Ix) (S : Nat → Prop) (w : World) (hd : DiceAt 89 w g) (hx : RdIx w S ev vv lv ix) (hS : ∀ k, S k → k < w.heap.size ∧ k ≠ g) (hl : ix.vals.length ≤ 65536) :
  Calls Tryz.prog 19 #[.pointer (some ⟨g, 0, none⟩), .agg #[ev, vv, lv]] w (Q19P w g) := by
 obtain ⟨i0, hi, hz0, hz1, hz2⟩ := info_parts info_str
 have hgl := hd.lt
 obtain ⟨ea, ec, rfl, -⟩ := hx.ents
 obtain ⟨lf, ⟨la, lc, rfl, -⟩, -⟩ := id hx.lists
 obtain ⟨va, vc, rfl, hvc, hvm, hvr⟩ := hx.vals
 have HVR := hid (fun i (hi : i < ix.vals.length) => (by
  obtain ⟨b, o, e, hb, hc⟩ := hvr (by omega)
  exact ⟨b, o, e, hS b hb, by have h := hc i hi 0 (by omega); simp only [Nat.mul_one, Nat.add_zero] at h; exact h⟩ : ∃ b o, va = some ⟨b, o, none⟩ ∧ (b < w.heap.size ∧ b ≠ g) ∧ w.cell? ⟨b, o + i, none⟩ = some (.string (ix.vals.getD i ⟨#[]⟩))))
 have HD := hid hd
 clear hx hvr
 generalize ix.vals.length = n at *
 have HB0 := hid ((Below.refl w.heap.size w).alloc (Nat.le_refl _) (.cells #[.slice ea ix.ents.length ec, .slice va n vc, .slice la ix.lists.length lc] 30))
 have HX0 := hid (BoxN.new w #[.slice ea ix.ents.length ec, .slice va n vc, .slice la ix.lists.length lc] 30)
 have HD0 := hid (HD.out.alloc (.cells #[.slice ea ix.ents.length ec, .slice va n vc, .slice la ix.lists.length lc] 30))
 clear hS hd
 unfold maxLen at hvm
 go_enter Tryz.func19, Tryz.ntmps19
 go_wp2_with fail
 with_reducible refine (dice_Texts g 4 _ HD0.out (by omega) (by omega)).mono ?_
 rintro e w1 ⟨a1, c1, xs, rfl, hown1, hxl, -, hd1, hr1⟩
 have HX1 := hid (show BoxN w1 w.heap.size 30 #[.slice ea ix.ents.length ec, .slice va n vc, .slice la ix.lists.length lc] from (hr1.block _ HX0.out.lt (by omega)).trans HX0.out)
 have x1 := HX1.out.cell 1 rfl
 have HO1 := hid (own_base hown1 (show w.heap.size ≤ (w.alloc (.cells #[.slice ea ix.ents.length ec, .slice va n vc, .slice la ix.lists.length lc] 30)).heap.size by rw [World.size_alloc]; omega))
 have HD1 := hid hd1
 have HR1 := hid ((Roll.of_below HB0.out g).trans (hr1.mono (by rw [World.size_alloc]; omega)))
 have hz1' := HR1.out.size
 clear hown1 hd1 hr1
 go_wp2_with fail
 go_loopg [13, 5, 7] n (fun K i o u7 wr => ∃ (p : Nat) (ys : List ByteArray) (a : Option Addr) (c : Nat), i = .int .i64 (p : Int) ∧ p + K = n ∧ o = .slice a ys.length c ∧ ys.length ≤ 4 + p ∧ Hid (wr.ownsRow w.heap.size 9 1 (.slice a ys.length c) ys.length (ys.map Value.string)) ∧ Hid (DiceAt 89 wr g) ∧ Hid (Roll w.heap.size g w wr))
 case atStart => exact ⟨0, xs, a1, c1, rfl, by omega, rfl, by omega, HO1, HD1, HR1⟩
 case round =>
  obtain ⟨p, ys, a, c, rfl, hp0, rfl, hyl, HO, HDD, HR⟩ := hrel
  have hzr := HR.out.size
  clear x1
  by_cases hp : 0 < gk
  ·have hpl : p < n := by omega
   have hpi : (p : Int) < (n : Int) := by omega
   obtain ⟨b, o, rfl, hb, k0⟩ := HVR.out p hpl
   have k0 := (HR.out.cell (p := ⟨b, o + p, none⟩) hb.1 hb.2).trans k0
   have HPK := hid (dice_Pick g 2 wr HDD.out (by omega) (by omega))
   generalize ix.vals.getD p ⟨#[]⟩ = s at *
   go_wp2_with fail
   with_reducible refine HPK.out.mono ?_
   rintro e w3 ⟨m, rfl, hm, hd3, hr3, hs3⟩
   have HD3 := hid hd3
   have HR3 := hid (HR.out.trans (hr3.mono hzr))
   have hown3 := own_roll HO.out hr3 (Nat.le_refl _) (by omega)
   have HO3 := hid hown3
   have hz3 := HR3.out.size
   clear hd3 hr3 hown3 hs3 k0
   by_cases hm0 : m = 0
   ·subst hm0
    obtain ⟨yl, hylen⟩ : ∃ yl, yl = ys.length := ⟨_, rfl⟩
    rw [← hylen] at HO3 hyl ⊢
    have HYL := hid hylen
    clear hylen
    go_wp2_with (at_builtin; refine wpList_append_form _ rfl (.tmp 20) (.tmp 22) 27 27 rfl w.heap.size 9 9 i0 (.string ⟨#[]⟩) 1 16 Tryz.underlying27 Tryz.underlying27 hi hz0 hz1 hz2 rfl (by decide) (.slice a yl c) yl (ys.map Value.string) rfl (HO3.out.alloc _) (some ⟨_, 0, none⟩) 1 1 [.string s] rfl rfl (fun _ => ⟨_, rfl, cell_one_new _ _ _⟩) (by intro u hu; simp at hu; subst hu; rfl) (by omega) (by unfold maxLen; omega) (by omega) (by simp; omega) ?_; intro g7 cap7 w7 hown7 hg7 hat7 hlt7; have HOWN7 := hid hown7; have HR7 := hid ((HR3.out.alloc hz3 (.cells #[.string s] 9)).grown hg7 (by rw [World.size_alloc]; omega) (fun k hk => (HO3.out.lt k hk).1)); have HD7 := hid (HD3.out.keep (w' := w7) (fun k hk => by
      have hgz := HD3.out.lt
      rw [hg7.block k (by rw [World.size_alloc]; omega) (fun e => by have := (HO3.out.lt k e.symm).1; omega), Below.heap_alloc _ _ _ (by omega)])); clear hown7 hg7 hat7 hlt7)
    go_wp2
    go_roundg (gk - 1)
    case rel => exact ⟨p + 1, ys ++ [s], _, cap7, by go_num, by omega, by rw [List.length_append, ← HYL.out]; rfl, by rw [List.length_append, ← HYL.out, List.length_singleton]; omega, hid (by rw [List.length_append, ← HYL.out, List.map_append]; exact HOWN7.out), HD7, HR7⟩
    case measure => omega
   ·have hmi : ((m : Int) == 0) = false := by rw [beq_eq_false_iff_ne]; omega
    have hmi2 : ¬ (m : Int) = 0 := by omega
    clear hm0
    go_wp2_with fail
    go_roundg (gk - 1)
    case rel => exact ⟨p + 1, ys, a, c, by go_num, by omega, rfl, by omega, HO3, HD3, HR3⟩
    case measure => omega
  ·obtain rfl : gk = 0 := by omega
   obtain rfl : p = n := by omega
   have HSET := hid (ref_Set _ ys wr.heap.size wr (rdS_of_own HO.out) (Nat.le_refl _) (by omega))
   have hsl := setOfL_len ys
   have HASC := hid (setOfL_asc ys)
   generalize setOfL ys = zs at *
   go_wp2_with fail
   with_reducible refine HSET.out.mono ?_
   rintro e w4 ⟨a4, c4, rfl, hown4, hb4⟩
   have HO4 := hid (own_base hown4 hzr)
   have HR4 := hid (HR.out.trans ((Roll.of_below hb4 g).mono hzr))
   have HD4 := hid (HDD.out.below hb4 HDD.out.lt)
   clear hown4 hb4
   obtain ⟨zl, hzl⟩ : ∃ zl, zl = zs.length := ⟨_, rfl⟩
   have HZL : Hid (Q19P w g (.returned (.slice a4 zl c4)) w4) := hid ⟨a4, c4, zs, by rw [hzl], HO4.out, HASC.out, by omega, HD4.out, HR4.out⟩
   rw [← hzl]
   clear hzl
   go_wp2
   go_ret
   exact HZL.out
end Go.Proofs.YtikiimlmoalbcaaGreatDoor
