/- 'append' onto a row that the call owns, or onto its beginning, from a slice of whatever shape: the result written out. No program in sight. Contract of the reference's Set. Contracts of the dice: Texts, Query. Contracts of the dice's Number, Date and Field. -/
import Derived.Deep.AppendLies
import Derived.Deep.RegionLaw
import Derived.Test.YtikiimlmoalbcaaGreatDoorOOtaa
import Derived.Shelf.Strconv.Itoa3
import Derived.Deep.RegionWith
import Derived.Deep.Cut
import Derived.Deep.CutRange
import Derived.Deep.DeepCutAuto
set_option linter.unusedVariables false
set_option linter.unusedSimpArgs false
namespace Go.Proofs.YtikiimlmoalbcaaGreatDoor
open Go.RowKit
section
variable {P : Program} (w : World)
theorem append_types {t tx ty e e' : TypeId} (ht : P.underlying t = some (.slice e)) (hk : P.underlying tx = some (.slice e')) (s x : Value) :
    (Builtin.append_ #[t, tx] ty #[s, x]).run P w = (Builtin.append_ #[t, t] ty #[s, x]).run P w := by
  cases s <;> simp [Builtin.append_, run_underlying ht, run_underlying hk]
theorem run_append_empty {t ty e : TypeId} {i : TypeInfo} (ht : P.underlying t = some (.slice e)) (hi : P.info? e = some i) (base : Option Addr) (n cap c : Nat) (hn : n ≤ cap) (ao : Option Addr) :
    (Builtin.append_ #[t, t] ty #[.slice base n cap, .slice ao 0 c]).run P w = .ok (.slice base n cap) w := by
  cases ao <;> cases base <;> simp [Builtin.append_, run_underlying ht, sizeOf, typeInfo, hi, Builtin.lenOf, Builtin.firstCells, loadCells, loadCellsFrom, storeCells, hn]
theorem run_append_form (base : Nat) (t tx ty e e' : TypeId) (i : TypeInfo) (z : Value) (size bytes : Nat) (ht : P.underlying t = some (.slice e)) (hk : P.underlying tx = some (.slice e')) (hi : P.info? e = some i) (hz : i.zero = some z)
    (hsize : i.size = size) (hby : i.bytes = bytes) (hzs : z.cells.size = size) (hsz : 0 < size)
    (v : Value) (n : Nat) (xs : List Value) (hown : w.ownsRow base e size v n xs)
    (ao : Option Addr) (m c : Nat) (news : List Value) (hl : news.length = m * size) (hnews : 0 < m → ∃ ad, ao = some ad ∧ ∀ j u, news[j]? = some u → w.cell? (ad.add j) = some u) (h1 : ∀ u ∈ news, u.oneCell' = true)
    (hpos : 0 < n + m) (h63 : n + m ≤ maxLen) (hbytes : (n + m) * bytes ≤ 140737488355328) (hbase : base ≤ w.heap.size) :
    ∃ g cap w', (Builtin.append_ #[t, tx] ty #[v, .slice ao m c]).run P w = .ok (.slice (some ⟨g, 0, none⟩) (n + m) cap) w' ∧
      w'.ownsRow base e size (.slice (some ⟨g, 0, none⟩) (n + m) cap) (n + m) (xs ++ news) ∧ w.grownBy w' v.ownBlock ∧ (v.ownBlock = some g ∨ g = w.heap.size) ∧ g < w'.heap.size := by
  rw [append_types w ht hk]
  by_cases hm : m = 0
  · subst hm
    have hn : news = [] := List.eq_nil_of_length_eq_zero (by simpa using hl)
    subst hn
    obtain ⟨g, cap, rfl, hg, hlt⟩ := hown.form (by omega)
    have hnc : n ≤ cap := by
      rcases hown.2 with ⟨h, _⟩ | ⟨g', cap', cur, h, _, _, hnc, _⟩
      · cases h
      · obtain ⟨_, _, rfl⟩ := Value.slice.inj h
        exact hnc
    exact ⟨g, cap, w, run_append_empty w ht hi _ n cap c hnc ao, by simpa using hown, ⟨rfl, rfl, rfl, Nat.le_refl _, fun _ _ _ => rfl⟩, .inl rfl, hlt⟩
  · obtain ⟨ad, rfl, hc⟩ := hnews (by omega)
    obtain ⟨g, cap, w', h2, h3, h4, h5, h6⟩ := run_append_lies (P := P) w t ty base e i z size bytes ht hi hz hsize hby hzs hsz v n xs hown ad m c news hl hc h1 (by omega) h63 hbytes hbase w.heap.size rfl
    exact ⟨g, cap, w', h2, h3, h4, h5, h6⟩
theorem wp_append_form {o : Oper} {a : Act} {K : Act → World → Prop} {Q : Exit → Act → World → Prop} (s x : Operand) (t tx : TypeId)
    (ho : o.op = .call { callee := .builtin .append, args := #[s, x], argTypes := #[t, tx] })
    (base : Nat) (e e' : TypeId) (i : TypeInfo) (z : Value) (size bytes : Nat) (ht : P.underlying t = some (.slice e)) (hk : P.underlying tx = some (.slice e')) (hi : P.info? e = some i) (hz : i.zero = some z)
    (hsize : i.size = size) (hby : i.bytes = bytes) (hzs : z.cells.size = size) (hsz : 0 < size)
    (v : Value) (n : Nat) (xs : List Value) (hs : a.eval s = v) (hown : w.ownsRow base e size v n xs)
    (ao : Option Addr) (m c : Nat) (news : List Value) (hx : a.eval x = .slice ao m c) (hl : news.length = m * size) (hnews : 0 < m → ∃ ad, ao = some ad ∧ ∀ j u, news[j]? = some u → w.cell? (ad.add j) = some u) (h1 : ∀ u ∈ news, u.oneCell' = true)
    (hpos : 0 < n + m) (h63 : n + m ≤ maxLen) (hbytes : (n + m) * bytes ≤ 140737488355328) (hbase : base ≤ w.heap.size)
    (h : ∀ g cap w', w'.ownsRow base e size (.slice (some ⟨g, 0, none⟩) (n + m) cap) (n + m) (xs ++ news) → w.grownBy w' v.ownBlock → (v.ownBlock = some g ∨ g = w.heap.size) → g < w'.heap.size → K (a.put o.dst (.slice (some ⟨g, 0, none⟩) (n + m) cap)) w') : o.wp P a w K Q := by
  obtain ⟨g, cap, w', hr, h2, h3, h4, h5⟩ := run_append_form (P := P) w base t tx o.type e e' i z size bytes ht hk hi hz hsize hby hzs hsz v n xs hown ao m c news hl hnews h1 hpos h63 hbytes hbase
  unfold Oper.wp execOp
  simp only [ho, resolve, invoke, builtin, Sem.run_bind, Sem.run_pure, Result.andThen_ok, List.map_toArray, List.map_cons, List.map_nil, hs, hx, hr]
  exact h g cap w' h2 h3 h4 h5
theorem wpList_append_form {ops : Array Oper} {rest : List Oper} {o : Oper} {a : Act} {Q : Exit → Act → World → Prop} (hgd : o.guard = none) (s x : Operand) (t tx : TypeId)
    (ho : o.op = .call { callee := .builtin .append, args := #[s, x], argTypes := #[t, tx] })
    (base : Nat) (e e' : TypeId) (i : TypeInfo) (z : Value) (size bytes : Nat) (ht : P.underlying t = some (.slice e)) (hk : P.underlying tx = some (.slice e')) (hi : P.info? e = some i) (hz : i.zero = some z)
    (hsize : i.size = size) (hby : i.bytes = bytes) (hzs : z.cells.size = size) (hsz : 0 < size)
    (v : Value) (n : Nat) (xs : List Value) (hs : a.eval s = v) (hown : w.ownsRow base e size v n xs)
    (ao : Option Addr) (m c : Nat) (news : List Value) (hx : a.eval x = .slice ao m c) (hl : news.length = m * size) (hnews : 0 < m → ∃ ad, ao = some ad ∧ ∀ j u, news[j]? = some u → w.cell? (ad.add j) = some u) (h1 : ∀ u ∈ news, u.oneCell' = true)
    (hpos : 0 < n + m) (h63 : n + m ≤ maxLen) (hbytes : (n + m) * bytes ≤ 140737488355328) (hbase : base ≤ w.heap.size)
    (h : ∀ g cap w', w'.ownsRow base e size (.slice (some ⟨g, 0, none⟩) (n + m) cap) (n + m) (xs ++ news) → w.grownBy w' v.ownBlock → (v.ownBlock = some g ∨ g = w.heap.size) → g < w'.heap.size → wpList P ops Q rest (a.put o.dst (.slice (some ⟨g, 0, none⟩) (n + m) cap)) w') : wpList P ops Q (o :: rest) a w :=
  wpList_plain hgd fun _ hK => wp_append_form w s x t tx ho base e e' i z size bytes ht hk hi hz hsize hby hzs hsz v n xs hs hown ao m c news hx hl hnews h1 hpos h63 hbytes hbase fun g cap w' h2 h3 h4 h5 => hK _ _ (h g cap w' h2 h3 h4 h5)
theorem step_append_form {ops : Array Oper} {o : Oper} {a : Act} {K : Act → World → Prop} {Q : Exit → Act → World → Prop} {E : Prop} (hgd : o.guard = none) (s x : Operand) (t tx : TypeId)
    (ho : o.op = .call { callee := .builtin .append, args := #[s, x], argTypes := #[t, tx] })
    (base : Nat) (e e' : TypeId) (i : TypeInfo) (z : Value) (size bytes : Nat) (ht : P.underlying t = some (.slice e)) (hk : P.underlying tx = some (.slice e')) (hi : P.info? e = some i) (hz : i.zero = some z)
    (hsize : i.size = size) (hby : i.bytes = bytes) (hzs : z.cells.size = size) (hsz : 0 < size)
    (v : Value) (n : Nat) (xs : List Value) (hs : a.eval s = v) (hown : w.ownsRow base e size v n xs)
    (ao : Option Addr) (m c : Nat) (news : List Value) (hx : a.eval x = .slice ao m c) (hl : news.length = m * size) (hnews : 0 < m → ∃ ad, ao = some ad ∧ ∀ j u, news[j]? = some u → w.cell? (ad.add j) = some u) (h1 : ∀ u ∈ news, u.oneCell' = true)
    (hpos : 0 < n + m) (h63 : n + m ≤ maxLen) (hbytes : (n + m) * bytes ≤ 140737488355328) (hbase : base ≤ w.heap.size)
    (h : ∀ g cap w', w'.ownsRow base e size (.slice (some ⟨g, 0, none⟩) (n + m) cap) (n + m) (xs ++ news) → w.grownBy w' v.ownBlock → (v.ownBlock = some g ∨ g = w.heap.size) → g < w'.heap.size → K (a.put o.dst (.slice (some ⟨g, 0, none⟩) (n + m) cap)) w') :
    if Region.wanted o (yielded ops a.tmps) = true then Oper.wp P o a w K Q else E := by
  have hw : Region.wanted o (yielded ops a.tmps) = true := by simp [Region.wanted, hgd]
  rw [if_pos hw]
  exact wp_append_form w s x t tx ho base e e' i z size bytes ht hk hi hz hsize hby hzs hsz v n xs hs hown ao m c news hx hl hnews h1 hpos h63 hbytes hbase h
end
theorem own_take {w : World} {base : Nat} {e : TypeId} {g n cap k : Nat} {xs : List Value} (h : w.ownsRow base e 1 (.slice (some ⟨g, 0, none⟩) n cap) n xs) (hk : k ≤ n) :
    w.ownsRow base e 1 (.slice (some ⟨g, 0, none⟩) k cap) k (xs.take k) := by
  obtain ⟨hl, h⟩ := h
  refine ⟨by rw [List.length_take]; omega, .inr ?_⟩
  rcases h with ⟨h, _⟩ | ⟨g', cap', cur, h, hb, hg, hn, hm, hs, ht⟩
  · cases h
  · obtain ⟨e1, _, rfl⟩ := Value.slice.inj h
    cases e1
    refine ⟨g, cap, cur, rfl, hb, hg, by omega, hm, hs, ?_⟩
    rw [← ht, List.take_take]
    congr 1
    omega
theorem own_drop {w : World} {base : Nat} {e : TypeId} {g n cap k : Nat} {xs : List Value} (h : w.ownsRow base e 1 (.slice (some ⟨g, 0, none⟩) n cap) n xs) :
    ∀ j u, (xs.drop k)[j]? = some u → w.cell? ((⟨g, k, none⟩ : Addr).add j) = some u := by
  intro j u hu
  rw [Addr.add_lit]
  have hj : k + j < n := by
    rw [List.getElem?_drop] at hu
    have := (List.getElem?_eq_some_iff.1 hu).1
    have := h.1
    omega
  rw [h.cellAt (k + j) (by omega), ← hu, List.getElem?_drop]
theorem own_caps {w : World} {base : Nat} {e : TypeId} {g n cap size : Nat} {xs : List Value} (h : w.ownsRow base e size (.slice (some ⟨g, 0, none⟩) n cap) n xs) : n ≤ cap ∧ cap ≤ maxLen ∧ base ≤ g ∧ g < w.heap.size := by
  rcases h.2 with ⟨h, _⟩ | ⟨g', cap', cur, h, hb, hg, hn, hm, hs, ht⟩
  · cases h
  · obtain ⟨e1, _, rfl⟩ := Value.slice.inj h
    cases e1
    exact ⟨hn, hm, hb, (Array.getElem?_eq_some_iff.1 hg).1⟩
theorem own_base {w : World} {base base' : Nat} {e : TypeId} {size n : Nat} {v : Value} {xs : List Value} (h : w.ownsRow base e size v n xs) (hb : base' ≤ base) : w.ownsRow base' e size v n xs := by
  refine ⟨h.1, ?_⟩
  rcases h.2 with h0 | ⟨g, cap, cur, hv, hbg, rest⟩
  · exact .inl h0
  · exact .inr ⟨g, cap, cur, hv, Nat.le_trans hb hbg, rest⟩
theorem own_drewN {w : World} {base : Nat} {e : TypeId} {size n : Nat} {v : Value} {xs : List Value} (h : w.ownsRow base e size v n xs) (k : Nat) : (w.drewN k).ownsRow base e size v n xs := h
end Go.Proofs.YtikiimlmoalbcaaGreatDoor

namespace Go.Proofs.YtikiimlmoalbcaaGreatDoor
open Go.RowKit
def SetSt (w wr : World) (xs : List ByteArray) (k : Nat) (v : Value) (acc : List ByteArray) : Prop :=
  acc = (xs.take k).foldl put1 [] ∧ wr.ownsRow w.heap.size 9 1 v acc.length (acc.map Value.string) ∧ (acc.length = 0 → v = .slice none 0 0) ∧ Below w.heap.size w wr
theorem take_foldl {xs : List ByteArray} {k : Nat} (h : k < xs.length) : (xs.take (k + 1)).foldl put1 [] = put1 ((xs.take k).foldl put1 []) (xs.getD k ⟨#[]⟩) := by
  rw [List.take_succ_eq_append_getElem h, List.foldl_append]
  simp [List.getD, h]
theorem take_foldl_len (xs : List ByteArray) (k : Nat) : ((xs.take k).foldl put1 []).length ≤ k := by
  have := (foldl_put1 (xs.take k) [] List.Pairwise.nil).2.1
  have h2 : (xs.take k).length ≤ k := List.length_take_le _ _
  simp at this h2
  omega
set_option maxRecDepth 100000 in
set_option maxHeartbeats 2000000 in
theorem ref_Set (v0 : Value) (xs : List ByteArray) (B : Nat) (w : World) (hv : RdS w B v0 xs) (hB : B ≤ w.heap.size) (hlen : xs.length ≤ 1099511627776) :
  Calls Tryz.prog 29 #[v0] w (GivesS w (setOfL xs)) := by
 obtain ⟨a, c, rfl, hc, hm, hx⟩ := hv
 obtain ⟨i0, hi, hz0, hz1, hz2⟩ := info_parts info_str
 have HTF := hid (fun k h => @take_foldl xs k h)
 have HTL := hid (fun k => take_foldl_len xs k)
 have HFIN : Hid (setOfL xs = (xs.take xs.length).foldl put1 []) := hid (by rw [List.take_length]; rfl)
 generalize setOfL xs = F at *
 generalize hn : xs.length = n at *
 have HX := hid hx
 clear hn hx
 unfold maxLen at hm
 go_enter Tryz.func29, Tryz.ntmps29
 go_wp2
 go_loopg [9, 3] n (fun N i v wr => ∃ (k : Nat) (acc : List ByteArray), n - k = N ∧ k ≤ n ∧ i = .int .i64 k ∧ acc.length ≤ k ∧ Hid (SetSt w wr xs k v acc))
 case atStart => exact ⟨0, [], by omega, by omega, rfl, by simp, hid ⟨by simp, World.ownsRow_nil _ _ _ _, fun _ => rfl, Below.refl _ _⟩⟩
 case round =>
  obtain ⟨k, acc, rfl, hk, rfl, hal, hst⟩ := hrel
  obtain ⟨hacc, hown, hnil, hbl⟩ := hst.out
  obtain ⟨a3, c3, rfl⟩ := own_slice hown
  have HACC := hid hacc
  have HOWN := hid hown
  have HNIL := hid hnil
  have HBL := hid hbl
  have hbs := hbl.size
  clear hacc hown hnil hbl hst
  by_cases hlt : k < n
  ·obtain ⟨b, o, rfl, hb, hcell⟩ := HX.out (by omega)
   have h1 : wr.cell? ⟨b, o + k, none⟩ = some (.string (xs.getD k ⟨#[]⟩)) := (HBL.out.cell (p := ⟨b, o + k, none⟩) (by show b < w.heap.size; omega)).trans (hcell k hlt)
   have HNEXT := hid (HTF.out k hlt)
   clear hcell
   generalize hs : xs.getD k ⟨#[]⟩ = s at *
   have HS := hid hs
   have hq := before_le s acc
   have HQ1 := hid (fun i hi => before_lt s acc i hi)
   have HQ2 := hid (before_at s acc)
   have HPUT : Hid (put1 acc s = if before s acc = acc.length ∨ acc.getD (before s acc) ⟨#[]⟩ ≠ s then acc.take (before s acc) ++ s :: acc.drop (before s acc) else acc) := hid rfl
   generalize before s acc = kb at *
   generalize hm2 : acc.length = m at *
   have HM := hid hm2
   clear hs hm2
   go_wp2
   go_loop [6] (fun i => ∃ q : Nat, q ≤ kb ∧ i = .int .i64 q) (fun i => kb - (intOf i).toNat)
   case atStart => exact ⟨0, by omega, rfl⟩
   case round =>
    clear h1
    obtain ⟨q, hqk, rfl⟩ := hrel
    by_cases hqlt : q < kb
    ·obtain ⟨g, cap, e3, hg, hgz⟩ := HOWN.out.form (by omega)
     obtain ⟨rfl, _, rfl⟩ := Value.slice.inj e3
     clear e3
     have h2 : wr.cell? ⟨g, q, none⟩ = some (.string (acc.getD q ⟨#[]⟩)) := (HOWN.out.cellAt q (by omega)).trans (smap_get (by have := HM.out; omega))
     have h3 : Op.bytesLess (acc.getD q ⟨#[]⟩).toList s.toList = true := HQ1.out q hqlt
     generalize acc.getD q ⟨#[]⟩ = aq at *
     go_wp2
     go_round
     case rel => exact ⟨q + 1, by omega, by go_num⟩
     case measure => simp [intOf]; omega
    ·obtain rfl : q = kb := by omega
     clear hqlt
     rcases Nat.eq_zero_or_pos m with rfl | hmp
     ·obtain rfl : q = 0 := by omega
      obtain ⟨rfl, _, rfl⟩ := Value.slice.inj (HNIL.out rfl)
      go_wp2
      go_region_law ((refine step_append_form _ rfl (.tmp 41) (.tmp 47) 27 27 rfl w.heap.size 9 9 i0 (.string ⟨#[]⟩) 1 16 Tryz.underlying27 Tryz.underlying27 hi hz0 hz1 hz2 rfl (by decide) (.slice none 0 0) 0 [] (by simp [Act.eval, Act.put]) (World.ownsRow_nil _ _ _ _) (some ⟨wr.heap.size, 0, none⟩) 1 1 [.string s] (by simp [Act.eval, Act.put]) rfl (fun _ => ⟨_, rfl, cell_one_new wr (.string s) 9⟩) (smap_one [s]) (by omega) (by unfold maxLen; omega) (by omega) (by simp; omega) ?_); intro g2 cap2 w2 hown2 hg2 hat2 hlt2)
      have hb2 : Below w.heap.size w w2 := (HBL.out.alloc (by omega) (.cells #[.string s] 9)).drew.grown hg2 (by simp; omega) (fun k hk => by cases hk)
      have HB2 := hid hb2
      have HO2 := hid hown2
      clear hb2 hown2 hg2 hat2 hlt2
      go_wp2
      go_roundg (n - (k + 1))
      case rel => exact ⟨k + 1, [s], by omega, by omega, by go_num, by simp, hid ⟨by rw [HNEXT.out, ← HACC.out, List.eq_nil_of_length_eq_zero HM.out]; rfl, HO2.out, fun h => by simp at h, HB2.out⟩⟩
      case measure => omega
     ·obtain ⟨g, cap, e3, hg, hgz⟩ := HOWN.out.form hmp
      obtain ⟨rfl, _, rfl⟩ := Value.slice.inj e3
      clear e3
      obtain ⟨hcap, hcm, _, _⟩ := own_caps HOWN.out
      unfold maxLen at hcm
      have hqc : q ≤ c3 := by omega
      by_cases hqm : q = m
      ·subst hqm
       obtain ⟨oo, hA⟩ : ∃ oo, (if c3 = q then some ⟨g, 0, none⟩ else some ⟨g, q, none⟩ : Option Addr) = some ⟨g, oo, none⟩ := by
        split
        ·exact ⟨0, rfl⟩
        ·exact ⟨q, rfl⟩
       have HP4 : Hid (0 < q + 1) := hid (by omega)
       have HP5 : Hid (q + 1 ≤ maxLen) := hid (by unfold maxLen; omega)
       have HP6 : Hid ((q + 1) * 16 ≤ 140737488355328) := hid (by omega)
       have HO1 := hid ((HOWN.out.alloc (.cells #[.string s] 9)).drew)
       have HLE : Hid (w.heap.size ≤ (wr.alloc (.cells #[.string s] 9)).heap.size) := hid (by rw [World.size_alloc]; omega)
       go_wp2
       go_region_law ((refine step_append_form _ rfl (.tmp 41) (.tmp 47) 27 27 rfl w.heap.size 9 9 i0 (.string ⟨#[]⟩) 1 16 Tryz.underlying27 Tryz.underlying27 hi hz0 hz1 hz2 rfl Nat.one_pos (.slice (some ⟨g, 0, none⟩) q c3) q (acc.map Value.string) rfl HO1.out (some ⟨wr.heap.size, 0, none⟩) 1 1 [.string s] rfl rfl (fun _ => ⟨_, rfl, cell_one_new wr (.string s) 9⟩) (smap_one [s]) HP4.out HP5.out HP6.out HLE.out ?_); intro g2 cap2 w2 hown2 hg2 hat2 hlt2)
       have hb2 : Below w.heap.size w w2 := (HBL.out.alloc (by omega) (.cells #[.string s] 9)).drew.grown hg2 (by simp; omega) (fun k hk => by
         have : g = k := by simpa [Value.ownBlock] using hk
         omega)
       have HB2 := hid hb2
       have HO2 := hid hown2
       have HL2 : Hid ((acc ++ [s]).length = q + 1) := hid (by have := HM.out; simp; omega)
       clear hb2 hown2 hg2 hat2 hlt2
       go_wp2
       go_roundg (n - (k + 1))
       case rel => exact ⟨k + 1, acc ++ [s], by omega, by omega, by go_num, by rw [HL2.out]; omega, hid ⟨by rw [HNEXT.out, ← HACC.out, HPUT.out, if_pos (.inl trivial), ← HM.out, List.take_length, List.drop_length], by rw [HL2.out]; simpa using HO2.out, fun h => by rw [HL2.out] at h; omega, HB2.out⟩⟩
       case measure => omega
      ·have hqm2 : q < m := by omega
       have hqm3 : ((q : Int) == (m : Int)) = false := by simp; omega
       have h2 : wr.cell? ⟨g, q, none⟩ = some (.string (acc.getD q ⟨#[]⟩)) := (HOWN.out.cellAt q (by omega)).trans (smap_get (by have := HM.out; omega))
       have h3 : Op.bytesLess (acc.getD q ⟨#[]⟩).toList s.toList = false := HQ2.out hqm2
       generalize hAQ : acc.getD q ⟨#[]⟩ = aq at *
       by_cases heq : aq = s
       ·have h4 : (aq.toList == s.toList) = true := by subst heq; simp
        have HEQ := hid heq
        clear heq
        go_wp2
        go_roundg (n - (k + 1))
        case rel => exact ⟨k + 1, acc, by omega, by omega, by go_num, by have := HM.out; omega, hid ⟨by rw [HNEXT.out, ← HACC.out, HPUT.out, if_neg (fun h => h.elim (fun h => by omega) (fun h => h HEQ.out))], by have := HOWN.out; rw [HM.out]; exact this, by rw [HM.out]; exact HNIL.out, HBL.out⟩⟩
        case measure => omega
       ·have h4 : (aq.toList == s.toList) = false := by
         cases h5 : (aq.toList == s.toList) with
         | false => rfl
         | true => exact absurd (bytes_ext (eq_of_beq h5)) heq
        have HEQ := hid heq
        clear heq
        have HDL : Hid (((acc.map Value.string).drop q).length = (m - q) * 1) := hid (by have := HM.out; simp; omega)
        have HDL2 : Hid (([Value.string s] ++ (acc.map Value.string).drop q).length = (1 + (m - q)) * 1) := hid (by have := HM.out; simp; omega)
        have HDC := hid (own_drop (k := q) ((HOWN.out).alloc (.cells #[.string s] 9)))
        have HD1 : Hid (∀ u ∈ (acc.map Value.string).drop q, u.oneCell' = true) := hid (fun u hu => smap_one acc u (List.mem_of_mem_drop hu))
        have HD3 : Hid (∀ u ∈ [Value.string s] ++ (acc.map Value.string).drop q, u.oneCell' = true) := hid (fun u hu => by
         rcases List.mem_append.1 hu with h | h
         ·exact smap_one [s] u h
         ·exact HD1.out u h)
        have hcq : ¬ c3 = q := by omega
        have HOL : Hid ((wr.alloc (.cells #[.string s] 9)).ownsRow wr.heap.size 9 1 (.slice (some ⟨wr.heap.size, 0, none⟩) 1 1) 1 [.string s]) := hid (World.ownsRow_lit wr #[.string s] 1 (Nat.le_refl _) (by simp [maxLen]) rfl)
        have HLE : Hid (wr.heap.size ≤ (wr.alloc (.cells #[.string s] 9)).heap.size) := hid (by rw [World.size_alloc]; omega)
        have HP1 : Hid (0 < 1 + (m - q)) := hid (by omega)
        have HP2 : Hid (1 + (m - q) ≤ maxLen) := hid (by unfold maxLen; omega)
        have HP3 : Hid ((1 + (m - q)) * 16 ≤ 140737488355328) := hid (by omega)
        have HP4 : Hid (0 < q + (1 + (m - q))) := hid (by omega)
        have HP5 : Hid (q + (1 + (m - q)) ≤ maxLen) := hid (by unfold maxLen; omega)
        have HP6 : Hid ((q + (1 + (m - q))) * 16 ≤ 140737488355328) := hid (by omega)
        have HQM : Hid (q ≤ m) := hid (by omega)
        have HNE : Hid ((Value.slice (some ⟨g, 0, none⟩) m c3).ownBlock ≠ (Value.slice (some ⟨wr.heap.size, 0, none⟩) 1 1).ownBlock) := hid (fun e => by
         have : g = wr.heap.size := by simpa [Value.ownBlock] using e
         omega)
        go_wp2
        go_region_law (first | ((refine step_append_form _ rfl (.tmp 43) (.tmp 46) 27 27 rfl wr.heap.size 9 9 i0 (.string ⟨#[]⟩) 1 16 Tryz.underlying27 Tryz.underlying27 hi hz0 hz1 hz2 rfl Nat.one_pos (.slice (some ⟨wr.heap.size, 0, none⟩) 1 1) 1 [.string s] rfl HOL.out (some ⟨g, q, none⟩) (m - q) (c3 - q) ((acc.map Value.string).drop q) rfl HDL.out (fun _ => ⟨_, rfl, HDC.out⟩) HD1.out HP1.out HP2.out HP3.out HLE.out ?_); intro g1 cap1 w1 hown1 hg1 hat1 hlt1; have HD2 := hid (hown1.cells (g := g1) rfl); have HT2 := hid (own_take ((HOWN.out.alloc (.cells #[.string s] 9)).drew.kept hg1 (.inr HNE.out)) HQM.out)) | ((refine step_append_form _ rfl (.tmp 41) (.tmp 47) 27 27 rfl w.heap.size 9 9 i0 (.string ⟨#[]⟩) 1 16 Tryz.underlying27 Tryz.underlying27 hi hz0 hz1 hz2 rfl Nat.one_pos (.slice (some ⟨g, 0, none⟩) q c3) q ((acc.map Value.string).take q) rfl HT2.out (some ⟨g1, 0, none⟩) (1 + (m - q)) cap1 ([.string s] ++ (acc.map Value.string).drop q) rfl HDL2.out (fun _ => ⟨_, rfl, HD2.out⟩) HD3.out HP4.out HP5.out HP6.out (by have := hg1.size; simp at this; omega) ?_); intro g2 cap2 w2 hown2 hg2 hat2 hlt2))
        have hb1 : Below w.heap.size w w1 := (HBL.out.alloc (by omega) (.cells #[.string s] 9)).drew.grown hg1 (by simp; omega) (fun k hk => by
         have : wr.heap.size = k := by simpa [Value.ownBlock] using hk
         omega)
        have hz1' := hg1.size
        simp at hz1'
        have HB2 := hid (hb1.grown hg2 (by omega) (fun k hk => by
         have : g = k := by simpa [Value.ownBlock] using hk
         omega))
        have HO2 := hid hown2
        have HL2 : Hid ((acc.take q ++ s :: acc.drop q).length = q + (1 + (m - q))) := hid (by have := HM.out; simp; omega)
        clear hb1 hown1 hg1 hat1 hlt1 hown2 hg2 hat2 hlt2 hz1'
        go_wp2
        go_roundg (n - (k + 1))
        case rel => exact ⟨k + 1, acc.take q ++ s :: acc.drop q, by omega, by omega, by go_num, by rw [HL2.out]; omega, hid ⟨by rw [HNEXT.out, ← HACC.out, HPUT.out, if_pos (.inr HEQ.out)], by rw [HL2.out]; simpa using HO2.out, fun h => by rw [HL2.out] at h; omega, HB2.out⟩⟩
        case measure => omega
  ·obtain rfl : k = n := by omega
   have hfin : F = acc := HFIN.out.trans HACC.out.symm
   subst hfin
   have HFI : Hid (GivesS w F (.returned (.slice a3 F.length c3)) wr) := hid ⟨a3, c3, rfl, HOWN.out, HBL.out⟩
   generalize F.length = L at *
   go_wp2
   go_ret
   exact HFI.out
end Go.Proofs.YtikiimlmoalbcaaGreatDoor

namespace Go.Proofs.YtikiimlmoalbcaaGreatDoor
open Go.RowKit
def TextsP (w : World) (g : Nat) (most : Int) (e : Ending) (w' : World) : Prop :=
  ∃ a c, ∃ xs : List ByteArray, e = .returned (.slice a xs.length c) ∧ w'.ownsRow w.heap.size 9 1 (.slice a xs.length c) xs.length (xs.map Value.string) ∧ (xs.length : Int) ≤ most ∧ (∀ x ∈ xs, x ∈ wordsL) ∧
    DiceAt 89 w' g ∧ Roll w.heap.size g w w'
theorem word_mem (r : Nat) (h : r < 16) : wordsL.getD r ⟨#[]⟩ ∈ wordsL := by
  have hl : r < wordsL.length := h
  simp [List.getD, hl]
set_option maxHeartbeats 1000000 in
theorem dice_Texts (g : Nat) (most : Int) (w : World) (hd : DiceAt 89 w g) (h0 : 0 ≤ most) (h1 : most ≤ 1048576) :
  Calls Tryz.prog 30 #[.pointer (some ⟨g, 0, none⟩), .int .i64 most] w (TextsP w g most) := by
 obtain ⟨i0, hi, hz0, hz1, hz2⟩ := info_parts info_str
 have hgl := hd.lt
 have HD := hid hd
 clear hd
 go_enter Tryz.func30, Tryz.ntmps30
 go_wp2_with fail
 with_reducible refine (dice_Pick g _ _ HD.out (by omega) (by omega)).mono ?_
 rintro e w1 ⟨m, rfl, hm, hd1, hr1, hs1⟩
 have HD1 := hid hd1
 have HR1 := hid hr1
 have HS1 := hid hs1
 clear hd1 hr1 hs1
 go_wp2
 go_loopg [6, 5] m (fun N i v wr => ∃ acc : List ByteArray, i = .int .i64 N ∧ ((acc.length + N : Nat) : Int) ≤ most ∧ wr.ownsRow w.heap.size 9 1 v acc.length (acc.map Value.string) ∧ Hid (∀ x ∈ acc, x ∈ wordsL) ∧
  DiceAt 89 wr g ∧ Roll w.heap.size g w wr)
 case atStart => exact ⟨[], rfl, by simp; omega, World.ownsRow_nil _ _ _ _, hid (by simp), HD1.out, HR1.out⟩
 case round =>
  obtain ⟨acc, rfl, hal, hown, hmem, hd2, hr2⟩ := hrel
  have HOWN := hid hown
  have HD2 := hid hd2
  have HR2 := hid hr2
  have hz2' := hr2.size
  obtain ⟨a5, c5, rfl⟩ := own_slice hown
  clear hown hd2 hr2
  by_cases hp : 0 < gk
  ·go_wp2_with fail
   with_reducible refine (mill_Words _).mono ?_
   rintro e W1 ⟨rfl, rfl⟩
   go_wp2_with fail
   with_reducible refine (mill_Words _).mono ?_
   rintro e W2 ⟨rfl, rfl⟩
   go_wp2_with fail
   have hdw : DiceAt 89 ((wr.alloc (.cells wordsC 9)).alloc (.cells wordsC 9)) g := (HD2.out.alloc _).alloc _
   have hgw := HD2.out.lt
   have HC := hid (fun r h => words_cell wr r h)
   have hsz : ((wr.alloc (.cells wordsC 9)).alloc (.cells wordsC 9)).heap.size = wr.heap.size + 2 := by simp
   have HOW := hid ((HOWN.out.alloc (.cells wordsC 9)).alloc (.cells wordsC 9))
   have HRW := hid ((HR2.out.alloc (by omega) (.cells wordsC 9)).alloc (by simp; omega) (.cells wordsC 9))
   have HCW := hid (fun r (h : r < 16) => (World.cell?_alloc_lt (wr.alloc (.cells wordsC 9)) (.cells wordsC 9) ⟨wr.heap.size, r, none⟩ (by simp)).trans (HC.out r h))
   clear HC HOWN HR2
   with_reducible refine (dice_Pick g _ _ hdw (by omega) (by omega)).mono ?_
   clear hdw
   generalize (wr.alloc (.cells wordsC 9)).alloc (.cells wordsC 9) = W2 at *
   rintro e w3 ⟨r, rfl, hr, hd3, hr3, hs3⟩
   have hc3 : w3.cell? ⟨wr.heap.size, r, none⟩ = some (.string (wordsL.getD r ⟨#[]⟩)) := (hr3.cell (p := ⟨wr.heap.size, r, none⟩) (by show wr.heap.size < W2.heap.size; omega) (by show wr.heap.size ≠ g; omega)).trans (HCW.out r (by omega))
   have hown3 := own_roll HOW.out hr3 (Nat.le_refl _) (by omega)
   have HR3 := hid (HRW.out.trans (hr3.mono (by omega)))
   have HD3 := hid hd3
   have HMEM : Hid (wordsL.getD r ⟨#[]⟩ ∈ wordsL) := hid (word_mem r (by omega))
   have hz3 : w.heap.size ≤ w3.heap.size := by omega
   clear hr3 hd3 hs3
   generalize wordsL.getD r ⟨#[]⟩ = s at *
   go_wp2_with (at_builtin; refine wpList_append_own _ rfl _ _ 27 rfl (w.heap.size) 9 i0 (.string ⟨#[]⟩) 1 16 Tryz.underlying27 hi hz0 hz1 hz2 rfl (by decide) _ _ _ rfl (hown3.alloc _) ⟨_, 0, none⟩ 1 1 [(.string s)] rfl rfl (cell_one_new _ _ _) (by intro u hu; simp at hu; subst hu; rfl) (by unfold maxLen; omega) (by omega) (by simp; omega) ?_)
   intro v' w4 hown4 hgrow _
   have hgg : g < w3.heap.size := HD3.out.lt
   have HR4 := hid ((HR3.out.alloc (by omega) (.cells #[.string s] 9)).grown hgrow (by simp; omega) (fun k hk => (hown3.lt k hk).1))
   have HD4 := hid (HD3.out.keep (w' := w4) (fun k hk => by
    rw [hgrow.block k (by simp; omega) (fun e => by have := (hown3.lt k e.symm).1; omega), Below.heap_alloc _ _ _ (by omega)]))
   have hz4 := HR4.out.size
   have e4 : acc.map Value.string ++ [.string s] = (acc ++ [s]).map Value.string := by simp
   rw [e4] at hown4
   have HO4 := hid hown4
   clear e4 hown4 hgrow hown3
   go_wp2
   go_roundg (gk - 1)
   case rel => exact ⟨acc ++ [s], by go_num, by simp; omega, by simpa using HO4.out, hid (fun x hx => by
    rcases List.mem_append.1 hx with h | h
    ·exact hmem.out x h
    ·rw [List.mem_singleton.1 h]; exact HMEM.out), HD4.out, HR4.out⟩
   case measure => omega
  ·obtain rfl : gk = 0 := by omega
   have HFIN : Hid (TextsP w g most (.returned (.slice a5 acc.length c5)) wr) := hid ⟨a5, c5, acc, rfl, HOWN.out, by simpa using hal, hmem.out, HD2.out, HR2.out⟩
   generalize acc.length = L at *
   go_wp2
   go_ret
   exact HFIN.out
def QueryP (w : World) (g : Nat) (most : Int) (e : Ending) (w' : World) : Prop :=
  ∃ a c, ∃ xs : List ByteArray, e = .returned (.slice a xs.length c) ∧ w'.ownsRow w.heap.size 9 1 (.slice a xs.length c) xs.length (xs.map Value.string) ∧ (xs.length : Int) ≤ most ∧ (∀ x ∈ xs, x ∈ wordsL) ∧ Asc xs ∧
    DiceAt 89 w' g ∧ Roll w.heap.size g w w'
set_option maxHeartbeats 1000000 in
theorem dice_Query (g : Nat) (most : Int) (w : World) (hd : DiceAt 89 w g) (h0 : 0 ≤ most) (h1 : most ≤ 1048576) :
    Calls Tryz.prog 25 #[.pointer (some ⟨g, 0, none⟩), .int .i64 most] w (QueryP w g most) := by
  have hgl := hd.lt
  have HD := hid hd
  clear hd
  go_enter Tryz.func25, Tryz.ntmps25
  go_wp2_with fail
  with_reducible refine (dice_Texts g _ _ HD.out h0 h1).mono ?_
  rintro e w1 ⟨a, c, xs, rfl, hown, hlen, hmem, hd1, hr1⟩
  have HR := hid (rdS_of_own hown)
  have HS := hid (fun (h : xs.length ≤ 1099511627776) => ref_Set _ xs _ w1 HR.out (Nat.le_refl _) h)
  have HMEM := hid hmem
  have HD1 := hid hd1
  have HR1 := hid hr1
  have HLEN : Hid ((setOfL xs).length ≤ xs.length) := hid (setOfL_len xs)
  have HASC : Hid (Asc (setOfL xs)) := hid (setOfL_asc xs)
  have HMM : Hid (∀ x ∈ setOfL xs, x ∈ xs) := hid (setOfL_mem xs)
  have hz1 := hr1.size
  clear hown hmem hd1 hr1
  generalize setOfL xs = ys at *
  generalize xs.length = n at *
  go_wp2_with fail
  with_reducible refine (HS.out (by omega)).mono ?_
  rintro e w2 ⟨a2, c2, rfl, hown2, hb2⟩
  have HFIN : Hid (QueryP w g most (.returned (.slice a2 ys.length c2)) w2) := hid ⟨a2, c2, ys, rfl, own_base hown2 hz1, by have := HLEN.out; omega, fun x hx => HMEM.out x (HMM.out x hx), HASC.out,
    HD1.out.below hb2 HD1.out.lt, HR1.out.trans ((Roll.of_below hb2 g).mono hz1)⟩
  clear hown2 hb2
  generalize ys.length = m at *
  go_wp2
  go_ret
  exact HFIN.out
end Go.Proofs.YtikiimlmoalbcaaGreatDoor

namespace Go.Proofs.YtikiimlmoalbcaaGreatDoor
open Go.RowKit Go.Shelf
def noNl (t : ByteArray) : Prop := ∀ c ∈ t.data.toList, c ≠ 10 ∧ c ≠ 13
def Small (n : Nat) (t : ByteArray) : Prop := t.size ≤ n ∧ noNl t
theorem Small.more {m n : Nat} {t : ByteArray} (h : Small m t) (hn : m ≤ n) : Small n t := ⟨Nat.le_trans h.1 hn, h.2⟩
instance (n : Nat) (t : ByteArray) : Decidable (Small n t) := by unfold Small noNl; exact inferInstance
def LY : List ByteArray := [⟨#[50, 48, 50, 52]⟩, ⟨#[49, 57, 57, 57]⟩, ⟨#[50, 48, 50, 54]⟩, ⟨#[49, 57, 48, 48]⟩, ⟨#[48, 48, 48, 49]⟩, ⟨#[57, 57, 57, 57]⟩]
def LM : List ByteArray := [⟨#[48, 49]⟩, ⟨#[48, 50]⟩, ⟨#[49, 50]⟩, ⟨#[49, 49]⟩, ⟨#[49, 51]⟩]
def LT : List ByteArray := [⟨#[48, 49]⟩, ⟨#[50, 56]⟩, ⟨#[50, 57]⟩, ⟨#[51, 48]⟩, ⟨#[51, 49]⟩]
def LS : List ByteArray := [⟨#[]⟩, ⟨#[]⟩, ⟨#[]⟩, ⟨#[45]⟩, ⟨#[43]⟩]
def LF : List ByteArray := [⟨#[53]⟩, ⟨#[53, 48]⟩, ⟨#[48]⟩, ⟨#[49, 50, 53]⟩, ⟨#[48, 48, 55]⟩, ⟨#[48, 48, 48, 48, 48, 48, 48, 48, 49]⟩]
def L3 : List ByteArray := [⟨#[121, 101, 115]⟩, ⟨#[110, 111]⟩, ⟨#[84, 82, 85, 69]⟩, ⟨#[70, 97, 108, 115, 101]⟩, ⟨#[32, 121, 101, 115, 32]⟩]
def L4 : List ByteArray := [⟨#[32, 107, 103]⟩, ⟨#[103]⟩, ⟨#[32, 107, 109]⟩, ⟨#[109]⟩, ⟨#[32, 109, 105, 110]⟩, ⟨#[37]⟩, ⟨#[32, 109, 109]⟩]
def L5 : List ByteArray := [⟨#[]⟩, ⟨#[32]⟩, ⟨#[78, 65]⟩, ⟨#[45]⟩, ⟨#[110, 111, 110, 101]⟩, ⟨#[63]⟩, ⟨#[110, 117, 108, 108]⟩]
def L6 : List ByteArray := [⟨#[97, 44, 98]⟩, ⟨#[34, 113, 34]⟩, ⟨#[39]⟩, ⟨#[120, 59, 121]⟩, ⟨#[108, 10, 105]⟩, ⟨#[99, 13, 114]⟩, ⟨#[32, 112, 97, 100, 32]⟩, ⟨#[9]⟩, ⟨#[124]⟩, ⟨#[]⟩, ⟨#[195, 169]⟩, ⟨#[123]⟩, ⟨#[97, 34, 98]⟩, ⟨#[13, 10]⟩]
theorem diceDrew {w : World} {g : Nat} (h : DiceAt 89 w g) : DiceAt 89 w.drew g := h
def TextR (w : World) (g n : Nat) (e : Ending) (w' : World) : Prop := ∃ t, e = .returned (.string t) ∧ Small n t ∧ DiceAt 89 w' g ∧ Roll w.heap.size g w w'
end Go.Proofs.YtikiimlmoalbcaaGreatDoor
