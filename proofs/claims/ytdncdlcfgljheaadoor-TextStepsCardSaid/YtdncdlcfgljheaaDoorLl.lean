/- Contract of text.Lines. -/
import Derived.Maps.AppendAt
import Derived.Test.YtdncdlcfgljheaaDoorLi
import Derived.Test.YtdncdlcfgljheaaDoorDi
import Derived.Test.YtdncdlcfgljheaaDoorGt
namespace Go.Proofs.YtdncdlcfgljheaaDoor
open Go.RowKit Go.Shelf

attribute [local go_sem] Oper.semAt_some

theorem rawF_len : ∀ (l cur : List UInt8), (rawF cur l).length ≤ l.length + 1
  | [], cur => by unfold rawF; split <;> simp
  | c :: l, cur => by
    unfold rawF
    split
    · have := rawF_len l []; simp; omega
    · have := rawF_len l (cur ++ [c]); simp; omega
theorem rawB_len (s : ByteArray) : (rawB s).length ≤ s.size + 1 := by
  have h := rawF_len s.data.toList []
  have e : s.size = s.data.toList.length := by rw [Array.length_toList]; rfl
  unfold rawB
  rw [List.length_map, e]
  exact h
theorem linesB_len (s : ByteArray) : (linesB s).length ≤ s.size + 1 := by rw [← lines_raw, List.length_map]; exact rawB_len s

def lnV (x : ByteArray) : Value := .string (stripB x)
/-- what holds between two rounds -/
def LnI (w : World) (pre : List ByteArray) (W : World) : Prop :=
  (∃ v, Boxed W w.heap.size 28 v ∧ W.ownsRow (w.heap.size + 2) 9 1 v pre.length (pre.map lnV)) ∧ Below w.heap.size w W ∧ w.heap.size + 2 ≤ W.heap.size

theorem own_farL {w : World} {base : Nat} {e : TypeId} {size n : Nat} {v : Value} {xs : List Value} (h : w.ownsRow base e size v n xs) {p : Addr} (hp : p.block < base) (u : Value) : (w.setCell p u).ownsRow base e size v n xs :=
  own_roll h ((Roll.refl w.heap.size p.block w).setCell rfl u) (Nat.le_refl _) hp
theorem lnI_own (w : World) : OwnFrom (w.heap.size + 2) (LnI w) := by
  intro s W W' row hs hg hr
  have hr' : ∀ r, row = some r → ∃ o : Obj, W.heap[r]? = some o ∧ o.isCells = false := fun r e => (hr r e).2
  obtain ⟨v, h1, h2⟩ := hs.1
  obtain ⟨v', h3, h4, _⟩ := holdsRow_own (w.heap.size + 2) w.heap.size 28 9 1 (fun pre : List ByteArray => pre.length) (fun pre => pre.map lnV) (fun _ _ => True) s W W' row ⟨v, h1, h2, trivial⟩ hg hr'
  exact ⟨⟨v', h3, h4⟩, hs.2.1.grown hg hs.2.1.size (fun k e => by have := (hr k e).1; omega), Nat.le_trans hs.2.2 hg.size⟩
theorem lnI_cell (w : World) : AbidesG (GL (w.heap.size + 1)) (LnI w) := by
  rintro s W r o v ⟨⟨u, h1, h2⟩, h3, h4⟩ ⟨rfl, _⟩
  exact ⟨⟨u, (Below.heap_setCell _ _ _ _ (by show w.heap.size ≠ w.heap.size + 1; omega)).trans h1, own_farL h2 (by show w.heap.size + 1 < _; omega) v⟩, h3.setCell (p := ⟨w.heap.size + 1, o, none⟩) (by show w.heap.size ≤ w.heap.size + 1; omega) v, by rw [World.size_setCell]; exact h4⟩

theorem own_base' {w : World} {base base' : Nat} {e : TypeId} {size n : Nat} {v : Value} {xs : List Value} (h : w.ownsRow base e size v n xs) (hb : base' ≤ base) : w.ownsRow base' e size v n xs := by
  refine ⟨h.1, ?_⟩
  rcases h.2 with h0 | ⟨g, cap, cur, hv, hbg, rest⟩
  · exact .inl h0
  · exact .inr ⟨g, cap, cur, hv, Nat.le_trans hb hbg, rest⟩
theorem lnStep {w W w1 : World} {pre : List ByteArray} {x : ByteArray} {v v' : Value} {O : Obj} (hv : Boxed W w.heap.size 28 v) (hrow : W.ownsRow (w.heap.size + 2) 9 1 v pre.length (pre.map lnV)) (hbl : Below w.heap.size w W) (hz : w.heap.size + 2 ≤ W.heap.size)
    (hown' : w1.ownsRow (w.heap.size + 2) 9 1 v' (pre.length + 1) (pre.map lnV ++ [lnV x])) (hgrow : (W.alloc O).grownBy w1 v.ownBlock) :
    KeepsFrom (w.heap.size + 2) W (w1.setCell ⟨w.heap.size, 0, none⟩ v') ∧ KpL (w.heap.size + 1) W (w1.setCell ⟨w.heap.size, 0, none⟩ v') ∧ LnI w (pre ++ [x]) (w1.setCell ⟨w.heap.size, 0, none⟩ v') := by
  have hs := hgrow.size
  simp at hs
  have hb : ∀ k, v.ownBlock = some k → w.heap.size + 2 ≤ k ∧ ∃ cur : Array Value, W.heap[k]? = some (.cells cur 9 (0, 0)) := by
    intro k hk
    rcases hrow.2 with ⟨rfl, _⟩ | ⟨g, cap, cur, rfl, hbg, hg, _⟩
    · cases hk
    · cases hk
      exact ⟨hbg, cur, hg⟩
  have hold : ∀ k (o : Obj), W.heap[k]? = some o → (∀ cur : Array Value, o ≠ .cells cur 9 (0, 0) ∨ k < w.heap.size + 2) → w1.heap[k]? = some o := by
    intro k o ho hne
    have hk := (Array.getElem?_eq_some_iff.1 ho).1
    rw [hgrow.block k (by simp; omega) ?_, Below.heap_alloc W O k hk]
    · exact ho
    · intro e
      obtain ⟨h1, cur, h2⟩ := hb k e.symm
      rw [ho] at h2
      rcases hne cur with h | h
      · exact h (Option.some.inj h2)
      · omega
  refine ⟨⟨by rw [World.size_setCell]; omega, fun k o hk ho hoc => ?_⟩, ⟨by rw [World.size_setCell]; omega, fun u hu => ?_⟩, ⟨v', ?_, ?_⟩, ?_, by rw [World.size_setCell]; omega⟩
  · refine (Below.heap_setCell _ _ _ _ (by show k ≠ w.heap.size; omega)).trans (hold k o ho (fun cur => .inl (by rintro rfl; cases hoc)))
  · exact (Below.heap_setCell _ _ _ _ (by show w.heap.size + 1 ≠ w.heap.size; omega)).trans (hold _ _ hu (fun cur => .inr (by omega)))
  · exact Boxed.set v' (show Boxed w1 w.heap.size 28 v from hold _ _ hv (fun cur => .inr (by omega)))
  · have := own_farL hown' (p := ⟨w.heap.size, 0, none⟩) (by show w.heap.size < _; omega) v'
    simpa using this
  · exact ((hbl.alloc (by omega) O).grown hgrow (by simp; omega) (fun k hk => by have := (hb k hk).1; omega)).setCell (p := ⟨w.heap.size, 0, none⟩) (Nat.le_refl _) v'

theorem lnBox {w W w1 : World} {pre : List ByteArray} {v : Value} {O : Obj} (hv : Boxed W w.heap.size 28 v) (hrow : W.ownsRow (w.heap.size + 2) 9 1 v pre.length (pre.map lnV)) (hgrow : (W.alloc O).grownBy w1 v.ownBlock) : Boxed w1 w.heap.size 28 v := by
  refine (hv.alloc O).kept hgrow ?_
  intro e
  rcases hrow.2 with ⟨rfl, _⟩ | ⟨g, cap, cur, rfl, hbg, hg, _⟩
  · simp [Value.ownBlock] at e
  · simp [Value.ownBlock] at e
    omega
theorem rawF_small : ∀ (l cur x : List UInt8), x ∈ rawF cur l → x.length ≤ cur.length + l.length
  | [], cur, x, h => by
    unfold rawF at h
    split at h
    · simp at h
    · simp at h; subst h; simp
  | c :: l, cur, x, h => by
    unfold rawF at h
    split at h
    · rcases List.mem_cons.1 h with rfl | h
      · simp
      · have := rawF_small l [] x h
        simp at this ⊢
        omega
    · have := rawF_small l (cur ++ [c]) x h
      simp at this ⊢
      omega
theorem rawB_small {s x : ByteArray} (h : x ∈ rawB s) : x.size ≤ s.size := by
  obtain ⟨l, hl, rfl⟩ := List.mem_map.1 h
  have h1 := rawF_small _ _ _ hl
  have e : s.size = s.data.toList.length := by rw [Array.length_toList]; rfl
  show l.toArray.size ≤ _
  rw [e, List.size_toArray]
  simpa using h1

theorem lines_stops (n : Nat) (hn : 1 ≤ n) (Bs : Nat) (s : ByteArray) (hs : s.size ≤ 1073741824) (w : World) (hc : Boxed w Bs 9 (.string s)) :
    SeqStopsG Fence.wide n Tryd.prog 80 #[.pointer (some ⟨Bs, 0, none⟩)] (fun x : ByteArray => #[Value.string x]) (KpL Bs) (fun ys => ys = rawB s) (fun pre => pre <+: rawB s) (fun pre x => pre ++ [x] <+: rawB s) (GL Bs) w :=
  fun l J Jx W hW hJ hJx hJc hJxc hY h0 => lines1_in n hn l Bs s hs J Jx W hJ hJc hJxc hY ((hW.block _ hc.lt).trans hc) h0

theorem linesMake_in (n : Nat) (s : ByteArray) (w : World) :
    CallsIn Fence.wide n Tryd.prog 48 #[.string s] w fun e w' => e = .returned (.func (.func 80) #[] #[.pointer (some ⟨w.heap.size, 0, none⟩)]) ∧ w' = w.alloc (.cells #[.string s] 9) := by
  refine callsIn_of_wp Tryd.func48 rfl trivial ?_ rfl
  simp only [Tryd.ntmps48, List.size_toArray, List.length_cons, List.length_nil, Nat.reduceAdd, Nat.reduceSub, Array.replicate_succ, Array.replicate_zero, List.push_toArray, List.append_toArray, List.nil_append, List.cons_append]
  gi_wp2
  go_ret
  exact ⟨rfl, rfl⟩

set_option maxRecDepth 100000 in
set_option maxHeartbeats 4000000 in
theorem text_Lines (s : ByteArray) (w : World) (hs : s.size ≤ 1073741824) :
    Calls Tryd.prog 17 #[.string s] w (GivesS w (linesB s)) := by
  obtain ⟨i0, hi, hz0, hz1, hz2⟩ := info_parts info_str
  refine (callsIn_wide (n := 6)).1 ?_
  refine callsIn_of_wp_marks Tryd.func17 rfl trivial ?_ rfl
  simp only [Tryd.ntmps17, List.size_toArray, List.length_cons, List.length_nil, Nat.reduceAdd, Nat.reduceSub, Array.replicate_succ, Array.replicate_zero, List.push_toArray, List.append_toArray, List.nil_append, List.cons_append]
  gi_wp2
  refine ⟨trivial, (linesMake_in _ s _).mono ?_⟩
  rintro e w' ⟨rfl, rfl⟩
  gi_wp2
  have hbx0 : Boxed ((w.alloc (.cells #[.slice none 0 0] 28)).alloc (.cells #[.string s] 9)) w.heap.size 28 (.slice none 0 0) := (Boxed.new w _ _).alloc _
  have hbx1 : Boxed ((w.alloc (.cells #[.slice none 0 0] 28)).alloc (.cells #[.string s] 9)) (w.heap.size + 1) 9 (.string s) := by
    have h := Boxed.new (w.alloc (.cells #[.slice none 0 0] 28)) 9 (.string s)
    rw [World.size_alloc] at h
    exact h
  have HI0 : LnI w [] ((w.alloc (.cells #[.slice none 0 0] 28)).alloc (.cells #[.string s] 9)) :=
    ⟨⟨_, hbx0, World.ownsRow_nil _ _ _ _⟩, ((Below.refl _ _).alloc (Nat.le_refl _) _).alloc (by simp) _, by simp⟩
  refine wpIn_rangeFunc_cells rfl (by omega) (gf := 80) (lb := #[.pointer (some ⟨w.heap.size + 1, 0, none⟩)]) rfl trivial (enters_of Tryd.func80 (by kernel_rfl) rfl)
    (lines_stops (6 - 1) (by omega) (w.heap.size + 1) s hs _ hbx1) (fun W r h => by obtain ⟨_, cs, h⟩ := h; exact ⟨_, h, rfl⟩)
    (fun h k => KpL.trans h k) ?kb (Below.refl _ _) (fun _ => rfl) (LnI w) (fun _ _ _ => False) (by simpa using lnI_own w) (fun _ _ _ _ _ h _ _ => h) (lnI_cell w) (fun _ _ _ _ _ _ h _ => h) HI0
    (fun x a' _ => a' = { tmps := #[.string s, undef, .slice none 0 0, .pointer (some ⟨w.heap.size, 0, none⟩), .string x, undef, undef, .string s, .func (.func 80) #[] #[.pointer (some ⟨w.heap.size + 1, 0, none⟩)], .string x, undef, undef, undef, undef, undef, undef, undef, undef, undef, undef, undef, undef, undef], defers := [] }) (fun _ _ _ _ _ _ h _ _ => h) ?assign ?body ?done ?stop
  case kb =>
    intro W l o o' hl ho h1 h2
    refine ⟨by simp, fun v hv => (World.putObj_heap_other ?_).trans hv⟩
    intro e
    simp at hl
    omega
  case assign =>
    rintro l pre x W K hi hK
    have HK := hid hK
    have HI := hid hi
    clear hK hi
    gi_wp2
    exact HK.out _ _ (KeepsFrom.refl _ _) ⟨Nat.le_refl _, fun _ h => h⟩ HI.out rfl
  case body =>
    rintro l pre x a' W hl ⟨r, hr⟩ ⟨⟨v, hv, hrow⟩, hbl, hz⟩ rfl hpx
    have hlen : pre.length + 1 ≤ 1073741825 := by
      have h1 := hpx.length_le
      have h2 := rawB_len s
      simp at h1
      omega
    have hxs : x.size ≤ 1073741824 := by
      have h1 := rawB_small (hpx.subset (show x ∈ pre ++ [x] by simp))
      omega
    have HV := hid hv
    have HROW := hid hrow
    have HBL := hid hbl
    have c0 := hv.cell
    have f0 := hv.frozen
    have HC1 : Hid (∀ W', Calls Tryd.prog 49 #[.string x, .string ⟨#[10]⟩] W' (fun e w' => e = .returned (.tuple #[.string ⟨(Lib.trimSuffix x.data.toList [10]).toArray⟩, .bool (Lib.hasSuffix x.data.toList [10])]) ∧ W' = w')) := hid (fun W' => (Tryd.strings_CutSuffix x ⟨#[10]⟩ W' (by omega)).mono fun e w' h => ⟨h.1, h.2.symm⟩)
    have HTL : Hid ((Lib.trimSuffix x.data.toList [10]).toArray.toList = Lib.trimSuffix x.data.toList [10]) := hid (by simp)
    have HC2 : Hid (∀ W', Calls Tryd.prog 50 #[.string ⟨(Lib.trimSuffix x.data.toList [10]).toArray⟩, .string ⟨#[13]⟩] W' (fun e w' => e = .returned (.string ⟨(Lib.trimSuffix (Lib.trimSuffix x.data.toList [10]) [13]).toArray⟩) ∧ W' = w')) := hid (fun W' => (Tryd.strings_TrimSuffix ⟨(Lib.trimSuffix x.data.toList [10]).toArray⟩ ⟨#[13]⟩ W' (by
      have h1 := Lib.trimSuffix_le x.data.toList [10]
      have h2 : x.size = x.data.toList.length := by rw [Array.length_toList]; rfl
      show (Lib.trimSuffix x.data.toList [10]).toArray.size ≤ _
      rw [List.size_toArray]
      omega)).mono fun e w' h => ⟨h.1, h.2.symm⟩)
    have HSV1 : Hid (Lib.hasSuffix x.data.toList [10] = true → lnV x = .string ⟨(Lib.trimSuffix (Lib.trimSuffix x.data.toList [10]) [13]).toArray⟩) := hid (fun h => by show Value.string (stripB x) = _; unfold stripB stripL; rw [if_pos h])
    have HSV2 : Hid (Lib.hasSuffix x.data.toList [10] = false → lnV x = .string ⟨(Lib.trimSuffix x.data.toList [10]).toArray⟩) := hid (fun h => by show Value.string (stripB x) = _; unfold stripB stripL; rw [if_neg (by rw [h]; simp)])
    clear hr hl hv hrow hbl HTL hpx
    generalize (⟨(Lib.trimSuffix (Lib.trimSuffix x.data.toList [10]) [13]).toArray⟩ : ByteArray) = t2 at *
    generalize (⟨(Lib.trimSuffix x.data.toList [10]).toArray⟩ : ByteArray) = t1 at *
    obtain ⟨a7, c7, rfl⟩ := own_slice HROW.out
    generalize Lib.hasSuffix x.data.toList [10] = sx at *
    cases sx with
    | true =>
      have HLN := hid (HSV1.out rfl)
      gi_wp2
      refine ⟨trivial, (CallsIn.inRound l (callsIn_wide.2 (HC1.out _))).mono ?_⟩
      rintro e w' ⟨rfl, rfl⟩
      gi_wp2
      refine ⟨trivial, (CallsIn.inRound l (callsIn_wide.2 (HC2.out _))).mono ?_⟩
      rintro e w' ⟨rfl, rfl⟩
      gi_wp2_with (gi_at_builtin; refine wpListIn_append_own _ rfl _ _ 28 rfl (w.heap.size + 2) 9 i0 (.string ⟨#[]⟩) 1 16 Tryd.underlying28 hi hz0 hz1 hz2 rfl (by decide) _ _ _ rfl (HROW.out.alloc _) ⟨W.heap.size, 0, none⟩ 1 1 [.string t2] rfl rfl (cell_one_new _ _ _) (by simp [Value.oneCell']) (by unfold maxLen; omega) (by omega) (by simp; omega) ?_; intro v' w1 hown' hgrow _; obtain ⟨g', cap', rfl⟩ := ownsRow_succ hown'; have hv1 := (lnBox HV.out HROW.out hgrow); have hc1 := hv1.cell; have hf1 := hv1.frozen)
      simp only [World.size_alloc]
      exact lnStep HV.out HROW.out HBL.out hz (by rw [HLN.out]; exact hown') hgrow
    | false =>
      have HLN := hid (HSV2.out rfl)
      gi_wp2
      refine ⟨trivial, (CallsIn.inRound l (callsIn_wide.2 (HC1.out _))).mono ?_⟩
      rintro e w' ⟨rfl, rfl⟩
      gi_wp2_with (gi_at_builtin; refine wpListIn_append_own _ rfl _ _ 28 rfl (w.heap.size + 2) 9 i0 (.string ⟨#[]⟩) 1 16 Tryd.underlying28 hi hz0 hz1 hz2 rfl (by decide) _ _ _ rfl (HROW.out.alloc _) ⟨W.heap.size, 0, none⟩ 1 1 [.string t1] rfl rfl (cell_one_new _ _ _) (by simp [Value.oneCell']) (by unfold maxLen; omega) (by omega) (by simp; omega) ?_; intro v' w1 hown' hgrow _; obtain ⟨g', cap', rfl⟩ := ownsRow_succ hown'; have hv1 := (lnBox HV.out HROW.out hgrow); have hc1 := hv1.cell; have hf1 := hv1.frozen)
      simp only [World.size_alloc]
      exact lnStep HV.out HROW.out HBL.out hz (by rw [HLN.out]; exact hown') hgrow
  case done =>
    rintro D ys W hD rfl ⟨⟨v, hv, hrow⟩, hbl, hz⟩ hK
    have hDn : w.heap.size ≤ D := by simp at hD; omega
    have HV := hid hv
    have HROW := hid hrow
    have HBL := hid hbl
    have HK := hid hK
    have hc := hv.cell
    have hl : (rawB s).length = (linesB s).length := by rw [← lines_raw, List.length_map]
    have HM : Hid ((rawB s).map lnV = (linesB s).map Value.string) := hid (by rw [← lines_raw, List.map_map]; rfl)
    have HFIN : Hid (GivesS w (linesB s) (.returned v) (W.putObj D (.deferred none))) := hid (by
      have h1 := own_base' (hrow) (base' := w.heap.size) (by omega)
      rw [hl, HM.out] at h1
      obtain ⟨a, c, rfl⟩ := own_slice h1
      exact ⟨a, c, rfl, ownsRow_putObj h1 _ HK.out rfl, HBL.out.trans (belowK_b (w := w) (Nat.le_refl _) W D _ _ hDn HK.out rfl rfl)⟩)
    clear hv hrow hbl hK hl
    obtain ⟨a7, c7, rfl⟩ := own_slice HROW.out
    gi_wp2
    refine ⟨by simp, .inl ⟨_, _, rfl, run_takeDeferred HK.out, ?_⟩⟩
    refine ⟨_, results_tmp rfl _ _ _, ?_⟩
    exact HFIN.out
  case stop =>
    rintro D c pre W _ _ h _
    exact h.elim

end Go.Proofs.YtdncdlcfgljheaaDoor
