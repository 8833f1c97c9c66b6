/- The walk of TextLines. -/
import Derived.Test.YtdncdlcfgljheaaDoorLj
import Derived.Test.YtdncdlcfgljheaaDoorFj
import Derived.Test.YtdncdlcfgljheaaDoorTx
import Derived.Test.YtdncdlcfgljheaaDoorSn
import Derived.Test.YtdncdlcfgljheaaDoorAp
namespace Go.Proofs.YtdncdlcfgljheaaDoor
open Go.RowKit

theorem rdU_later' {w w1 : World} {sa : Option Addr} {sn sc : Nat} (h : RdU w w.heap.size sa sn sc) (hb : Below w.heap.size w w1) : RdU w1 w1.heap.size sa sn sc :=
  ⟨h.1, h.2.1, fun hp => by
    obtain ⟨b, o, e, hb1, hc⟩ := h.2.2 hp
    exact ⟨b, o, e, Nat.lt_of_lt_of_le hb1 hb.size, fun i hi => by
      obtain ⟨y, hy, hcy⟩ := hc i hi
      exact ⟨y, hy, (hb.cell (p := ⟨b, o + i, none⟩) hb1).trans hcy⟩⟩⟩
theorem wpList_append_formg {P : Program} {w : World} {ops : Array Oper} {rest : List Oper} {o : Oper} {a : Act} {Q : Exit → Act → World → Prop} (hwd : Region.wanted o (yielded ops a.tmps) = true) (s x : Operand) (t tx : TypeId)
    (ho : o.op = .call { callee := .builtin .append, args := #[s, x], argTypes := #[t, tx] })
    (base : Nat) (e e' : TypeId) (i : TypeInfo) (z : Value) (size bytes : Nat) (ht : P.underlying t = some (.slice e)) (hk : P.underlying tx = some (.slice e')) (hi : P.info? e = some i) (hz : i.zero = some z)
    (hsize : i.size = size) (hby : i.bytes = bytes) (hzs : z.cells.size = size) (hsz : 0 < size)
    (v : Value) (n : Nat) (xs : List Value) (hs : a.eval s = v) (hown : w.ownsRow base e size v n xs)
    (ao : Option Addr) (m c : Nat) (news : List Value) (hx : a.eval x = .slice ao m c) (hl : news.length = m * size) (hnews : 0 < m → ∃ ad, ao = some ad ∧ ∀ j u, news[j]? = some u → w.cell? (ad.add j) = some u) (h1 : ∀ u ∈ news, u.oneCell' = true)
    (hpos : 0 < n + m) (h63 : n + m ≤ maxLen) (hbytes : (n + m) * bytes ≤ 140737488355328) (hbase : base ≤ w.heap.size)
    (h : ∀ g cap w', w'.ownsRow base e size (.slice (some ⟨g, 0, none⟩) (n + m) cap) (n + m) (xs ++ news) → w.grownBy w' v.ownBlock → (v.ownBlock = some g ∨ g = w.heap.size) → g < w'.heap.size → wpList P ops Q rest (a.put o.dst (.slice (some ⟨g, 0, none⟩) (n + m) cap)) w') : wpList P ops Q (o :: rest) a w :=
  wpList_step fun K hK => by
    rw [if_pos hwd]
    exact wp_append_form w s x t tx ho base e e' i z size bytes ht hk hi hz hsize hby hzs hsz v n xs hs hown ao m c news hx hl hnews h1 hpos h63 hbytes hbase fun g cap w' h2 h3 h4 h5 => hK _ _ (h g cap w' h2 h3 h4 h5)

theorem own0_le {g k n c : Nat} (h : (Value.slice (some ⟨g, 0, none⟩) n c).ownBlock = some k) : g ≤ k := by
  have : g = k := by simpa [Value.ownBlock] using h
  omega
theorem smap_snocL (xs : List ByteArray) (x : ByteArray) : xs.map Value.string ++ [.string x] = (xs ++ [x]).map Value.string := by simp

theorem own_emptyL {w : World} {g : Nat} (e : TypeId) (size : Nat) (hg : g = w.heap.size) : (w.alloc (.cells #[] e)).ownsRow g e size (.slice (some ⟨g, 0, none⟩) 0 0) 0 [] := by
  subst hg
  exact ⟨by simp, .inr ⟨w.heap.size, 0, #[], rfl, Nat.le_refl _, heap_alloc_new w _, Nat.le_refl _, by simp [maxLen], by simp, by simp⟩⟩
theorem there_laterL {w : World} {b o : Nat} {xs : List Value} (h : ∀ j u, xs[j]? = some u → w.cell? ((⟨b, o, none⟩ : Addr).add j) = some u) (hb : b < w.heap.size) (O : Obj) :
    ∀ j u, xs[j]? = some u → (w.alloc O).cell? ((⟨b, o, none⟩ : Addr).add j) = some u := by
  intro j u hu
  rw [World.cell?_alloc_lt _ _ _ (by rw [Addr.add_lit]; exact hb)]
  exact h j u hu
structure LinesAt (w : World) (B g : Nat) (xs : List ByteArray) (v : Value) (wr : World) : Prop where
  own : wr.ownsRow B 9 1 v xs.length (xs.map Value.string)
  ok : ∀ x ∈ xs, noNl x ∧ x.size ≤ 30
  dice : DiceAt 55 wr g
  roll : Roll B g w wr

theorem linesNext {w w5 w6 wr : World} {B g : Nat} {xs : List ByteArray} {x : ByteArray} {v v' : Value} {O : Obj} (h : LinesAt w B g xs v wr) (hown : w5.ownsRow B 9 1 v xs.length (xs.map Value.string)) (hr : Roll B g w w5) (hd : DiceAt 55 w5 g) (hx : noNl x) (hx30 : x.size ≤ 30) (hg : g < B)
    (hown' : w6.ownsRow B 9 1 v' (xs.length + 1) (xs.map Value.string ++ [.string x])) (hgrow : (w5.alloc O).grownBy w6 v.ownBlock) (hB : B ≤ w5.heap.size) : LinesAt w B g (xs ++ [x]) v' w6 := by
  have hrow : ∀ k, v.ownBlock = some k → B ≤ k := fun k hk => (hown.lt k hk).1
  refine ⟨by rw [← smap_snocL, List.length_append]; exact hown', fun y hy => ?_, ?_, ?_⟩
  · rcases List.mem_append.1 hy with hy | hy
    · exact h.ok y hy
    · simp at hy; subst hy; exact ⟨hx, hx30⟩
  · refine hd.keep fun k hk => ?_
    have hl := hd.lt
    rw [hgrow.block k (by simp; omega) (fun e => by have := hrow k e.symm; omega)]
    exact Below.heap_alloc w5 O k (by omega)
  · exact (hr.alloc hB O).grown hgrow (by simp; omega) hrow

set_option maxRecDepth 100000 in
set_option maxHeartbeats 4000000 in
theorem law_textLines (sa : Option Addr) (sn sc : Nat) (crlf : Bool) (w : World) (hs : RdU w w.heap.size sa sn sc) (hT : Tabs w) :
    Calls Tryd.prog 4 #[.slice sa sn sc, .bool crlf] w (Ret w (.bool true)) := by
  obtain ⟨i0, hi, hz0, hz1, hz2⟩ := info_parts info_str
  have HS := hid hs
  have HT := hid hT
  clear hs hT
  go_enter Tryd.func4, Tryd.ntmps4
  go_wp2_with fail
  with_reducible refine (law02_sane _ HT.out).mono ?_
  rintro e w1 ⟨rfl, hb1⟩
  have HB1 := hid hb1
  have HS1 := hid (rdU_later' HS.out hb1)
  have hz1' := hb1.size
  clear hb1
  go_wp2_with fail
  with_reducible refine (mill_New sa sn sc _ HS1.out).mono ?_
  rintro e w2 ⟨rfl, hd2, hb2⟩
  have HD2 := hid hd2
  have hg2 := hd2.lt
  have HB2 := hid (HB1.out.trans (hb2.mono HB1.out.size))
  clear hd2 hb2 HS1
  generalize hgg : w1.heap.size = g at *
  clear hgg
  go_wp2_with fail
  with_reducible refine (dice_Pick g 8 _ HD2.out (by omega) (by omega)).mono ?_
  rintro e w3 ⟨m, rfl, hm, hd3, hr3, hs3⟩
  have HL3 : Hid (LinesAt w2 w2.heap.size g [] (.slice none 0 0) w3) := hid ⟨World.ownsRow_nil _ _ _ _, by simp, hd3, hr3⟩
  clear hd3 hr3 hs3 HD2
  go_wp2
  go_loopg [6, 7, 8] m (fun M lv tv kv wr => ∃ (xs : List ByteArray) (a : Option Addr) (c : Nat), kv = .int .i64 (M : Int) ∧ lv = .slice a xs.length c ∧ tv = .string (joinB crlf xs) ∧ xs.length + M ≤ 8 ∧ Hid (LinesAt w2 w2.heap.size g xs (.slice a xs.length c) wr))
  case atStart => exact ⟨[], none, 0, rfl, rfl, rfl, by simp; omega, HL3⟩
  case round =>
    obtain ⟨xs, a, c, rfl, rfl, rfl, hxl, hst⟩ := hrel
    have hjs := joinB_size crlf xs (fun x hx => (hst.out.ok x hx).2)
    by_cases hp : 0 < gk
    · have HST := hst
      clear hst
      have hwz := HST.out.roll.size
      go_wp2_with fail
      with_reducible refine (dice_Pick g 6 _ HST.out.dice (by omega) (by omega)).mono ?_
      rintro e w4 ⟨m4, rfl, hm4, hd4, hr4, hs4⟩
      have HD4 := hid hd4
      have HR4 := hid hr4
      have HS4 := hid hs4
      clear hd4 hr4 hs4
      go_wp2_with fail
      with_reducible refine (dice_Field g m4 (by omega) _ HD4.out).mono ?_
      rintro e w5 ⟨x, rfl, hx30, hxn, hd5, hr5⟩
      have HXN := hid (hxn (by omega))
      have HD5 := hid hd5
      have HOW5 := hid (own_roll (own_roll HST.out.own HR4.out (Nat.le_refl _) hg2) hr5 (by rw [HS4.out]; exact Nat.le_refl _) hg2)
      have HR5 := hid (HST.out.roll.trans ((HR4.out.trans (hr5.mono (by rw [HS4.out]; exact Nat.le_refl _))).mono hwz))
      have hz5 := hr5.size
      have hz4 : wr.heap.size ≤ w4.heap.size := by rw [HS4.out]; exact Nat.le_refl _
      clear hxn hd5 hr5
      have hus : (joinB crlf xs ++ (x ++ ⟨#[10]⟩)).size = (joinB crlf xs).size + (x.size + 1) := by rw [ByteArray.size_append, ByteArray.size_append]; rfl
      have HCR : Hid (crlf = true → (joinB crlf xs ++ (x ++ ⟨#[10]⟩)).extract 0 ((joinB crlf xs ++ (x ++ ⟨#[10]⟩)).size - 1) ++ ⟨#[13, 10]⟩ = joinB crlf (xs ++ [x])) := hid (fun h => by rw [h]; exact joinB_cr xs x)
      have HLF : Hid (crlf = false → joinB crlf xs ++ (x ++ ⟨#[10]⟩) = joinB crlf (xs ++ [x])) := hid (fun h => by rw [h]; exact joinB_lf xs x)
      have hxs2 : (x ++ (⟨#[10]⟩ : ByteArray)).size = x.size + 1 := by rw [ByteArray.size_append]; rfl
      cases hc : crlf with
      | false =>
        subst hc
        have HE := hid (HLF.out rfl)
        clear hus HCR HLF
        go_wp2_with (at_builtin; refine wpList_append_own _ rfl _ _ 28 rfl (w2.heap.size) 9 i0 (.string ⟨#[]⟩) 1 16 Tryd.underlying28 hi hz0 hz1 hz2 rfl (by decide) _ _ _ rfl (HOW5.out.alloc _) ⟨_, 0, none⟩ 1 1 [(.string x)] rfl rfl (cell_one_new _ _ _) (by intro u hu; simp at hu; subst hu; rfl) (by unfold maxLen; omega) (by omega) (by simp; omega) ?_)
        intro v' w6 hown' hgrow _
        have HN := hid (linesNext HST.out HOW5.out HR5.out HD5.out HXN.out hx30 hg2 hown' hgrow (by have := HR5.out.size; omega))
        obtain ⟨a6, c6, rfl⟩ := own_slice hown'
        clear hown' hgrow
        go_wp2
        go_roundg (gk - 1)
        case rel => exact ⟨xs ++ [x], a6, c6, by first | rfl | (congr 1; omega) | (show Value.int .i64 _ = _; congr 1; omega), by simp, by rw [← HE.out], by simp; omega, by simpa using HN⟩
        case measure => omega
      | true =>
        subst hc
        have hcr := HCR.out rfl
        rw [hus, show (joinB true xs).size + (x.size + 1) - 1 = (joinB true xs).size + x.size by omega] at hcr
        have HE := hid hcr
        clear HCR HLF hcr
        go_wp2_with (at_builtin; refine wpList_append_own _ rfl _ _ 28 rfl (w2.heap.size) 9 i0 (.string ⟨#[]⟩) 1 16 Tryd.underlying28 hi hz0 hz1 hz2 rfl (by decide) _ _ _ rfl (HOW5.out.alloc _) ⟨_, 0, none⟩ 1 1 [(.string x)] rfl rfl (cell_one_new _ _ _) (by intro u hu; simp at hu; subst hu; rfl) (by unfold maxLen; omega) (by omega) (by simp; omega) ?_)
        intro v' w6 hown' hgrow _
        have HN := hid (linesNext HST.out HOW5.out HR5.out HD5.out HXN.out hx30 hg2 hown' hgrow (by have := HR5.out.size; omega))
        obtain ⟨a6, c6, rfl⟩ := own_slice hown'
        clear hown' hgrow
        go_wp2
        go_roundg (gk - 1)
        case rel => exact ⟨xs ++ [x], a6, c6, by first | rfl | (congr 1; omega) | (show Value.int .i64 _ = _; congr 1; omega), by simp, by rw [← HE.out], by simp; omega, by simpa using HN⟩
        case measure => omega
    · obtain rfl : gk = 0 := by omega
      have hkl : Small 4 (⟨#[108, 97, 115, 116]⟩ : ByteArray) := by decide
      have hla := linesB_last crlf xs ⟨#[108, 97, 115, 116]⟩ (fun x hx => (hst.out.ok x hx).1) hkl.2 (by decide)
      have HTL := hid (fun W => text_Lines (joinB crlf xs) W (by omega))
      rw [linesB_join crlf xs (fun x hx => (hst.out.ok x hx).1)] at HTL
      have hts : (joinB crlf xs ++ (⟨#[108, 97, 115, 116]⟩ : ByteArray)).size = (joinB crlf xs).size + 4 := by rw [ByteArray.size_append]; rfl
      have HTL2 := hid (fun W => text_Lines (joinB crlf xs ++ ⟨#[108, 97, 115, 116]⟩) W (by omega))
      rw [hla] at HTL2
      have HST := hst
      have hwz := HST.out.roll.size
      have HBR := hid (HB2.out.trans (HST.out.roll.below (B' := w.heap.size) (by omega) (by omega)))
      have htz : (joinB crlf xs).size ≤ 256 := by omega
      clear hst hla hts hkl hjs
      generalize joinB crlf xs = t at *
      go_wp2_with fail
      with_reducible refine (HTL.out _).mono ?_
      rintro e w4 ⟨a4, c4, rfl, ho4, hb4⟩
      have HO4 := hid (rdS_of_own ho4)
      have HL4 := hid (show RdS w4 w4.heap.size (.slice a xs.length c) xs from Rd.more (Rd.below (rdS_of_own HST.out.own) hb4 (Nat.le_refl _)) hb4.size)
      have HB4 := hid (HBR.out.trans (hb4.mono HBR.out.size))
      have hz4 := hb4.size
      clear ho4 hb4
      go_wp2_with fail
      with_reducible refine (ref_Same _ _ xs xs w4.heap.size _ HO4.out HL4.out).mono ?_
      rintro e w5 ⟨rfl, n5, rfl⟩
      rw [decide_eq_true (rfl : xs = xs)]
      by_cases hx0 : xs.length = 0
      · have h0 : ((xs.length : Int) == 0) = true := by rw [beq_iff_eq]; omega
        go_wp2
        go_ret
        exact ⟨rfl, below_drewN HB4.out⟩
      · have h0 : ((xs.length : Int) == 0) = false := by rw [beq_eq_false_iff_ne]; omega
        go_wp2_with fail
        with_reducible refine (HTL2.out _).mono ?_
        rintro e w6 ⟨a6, c6, rfl, ho6, hb6⟩
        have hb46 : Below w4.heap.size w4 w6 := ⟨hb6.os, hb6.tape, hb6.output, hb6.size, hb6.block⟩
        have HO6 := hid (rdS_of_own ho6)
        have HL6 := hid (show RdS w6 w6.heap.size (.slice a xs.length c) xs from Rd.more (Rd.below HL4.out hb46 (Nat.le_refl _)) hb46.size)
        have HB6 := hid (HB4.out.trans (hb46.mono HB4.out.size))
        clear ho6 hb6 hb46
        obtain ⟨a', c', he', hc', hm', hx'⟩ := HL6.out
        obtain ⟨rfl, -, rfl⟩ := Value.slice.inj he'
        obtain ⟨xb, xo, rfl, hxb, hxc⟩ := hx' (by omega)
        have HNW : Hid (∀ j u, (xs.map Value.string)[j]? = some u → w6.cell? ((⟨xb, xo, none⟩ : Addr).add j) = some u) := hid (by
          intro j u hu
          have hj : j < xs.length := by have := (List.getElem?_eq_some_iff.1 hu).1; simpa using this
          rw [Addr.add_lit, hxc j hj, ← hu]
          simp [strF, List.getD, hj])
        have HML : Hid ((xs.map Value.string).length = xs.length * 1) := hid (by simp)
        have HM1 : Hid (∀ u ∈ xs.map Value.string, u.oneCell' = true) := hid (by intro u hu; obtain ⟨x, _, rfl⟩ := List.mem_map.1 hu; rfl)
        clear hx' hxc he'
        go_wp2_with (at_builtin; refine wpList_append_formg (by first | rfl | (simp [Region.wanted, yielded]; done) | (simp [Region.wanted, yielded, h0]; done)) (.tmp 51) (.tmp 52) 28 28 rfl w6.heap.size 9 9 i0 (.string ⟨#[]⟩) 1 16 Tryd.underlying28 Tryd.underlying28 hi hz0 hz1 hz2 rfl (by decide) (.slice (some ⟨w6.heap.size, 0, none⟩) 0 0) 0 [] rfl (own_emptyL _ _ rfl) (some ⟨xb, xo, none⟩) xs.length c (xs.map Value.string) rfl HML.out (fun _ => ⟨_, rfl, there_laterL HNW.out hxb _⟩) HM1.out (by omega) (by unfold maxLen; omega) (by omega) (by simp) ?_)
        intro g7 cap7 w7 hown7 hg7 hat7 hlt7
        have h67 := hg7.size
        have hs7 : w6.heap.size + 1 ≤ w7.heap.size := by simpa using h67
        have hB67 : Below w6.heap.size w6 w7 := (Below.alloc (Below.refl _ w6) (Nat.le_refl _) (.cells #[] 9)).grown hg7 (by simp) (fun k hk => own0_le hk)
        have HB67 := hid hB67
        clear hB67 hg7 h67 hat7 HNW
        go_wp2_with (at_builtin; refine wpList_append_formg (by first | rfl | (simp [Region.wanted, yielded]; done) | (simp [Region.wanted, yielded, h0]; done)) (.tmp 53) (.tmp 54) 28 28 rfl w6.heap.size 9 9 i0 (.string ⟨#[]⟩) 1 16 Tryd.underlying28 Tryd.underlying28 hi hz0 hz1 hz2 rfl (by decide) (.slice (some ⟨g7, 0, none⟩) xs.length cap7) xs.length (xs.map Value.string) rfl (hown7.alloc _) (some ⟨w7.heap.size, 0, none⟩) 1 1 [.string ⟨#[108, 97, 115, 116]⟩] rfl rfl (fun _ => ⟨_, rfl, cell_one_new _ _ _⟩) (by intro u hu; simp at hu; subst hu; rfl) (by omega) (by unfold maxLen; omega) (by omega) (by simp; omega) ?_)
        intro g8 cap8 w8 hown8 hg8 hat8 hlt8
        rw [smap_snocL] at hown8
        have hB78 : Below w6.heap.size w7 w8 := (Below.alloc (Below.refl _ w7) (by omega) (.cells #[.string ⟨#[108, 97, 115, 116]⟩] 9)).grown hg8 (by simp; omega) (fun k hk => Nat.le_trans ((hown7.lt g7 rfl).1) (own0_le hk))
        have HO8 := hid (show RdS w8 w8.heap.size _ (xs ++ [⟨#[108, 97, 115, 116]⟩]) from rdS_of_own (by simpa using hown8))
        have HB68 := hid (HB67.out.trans hB78)
        have HL8 := hid (show RdS w8 w8.heap.size _ (xs ++ [⟨#[108, 97, 115, 116]⟩]) from Rd.more (Rd.below HO6.out HB68.out (Nat.le_refl _)) HB68.out.size)
        have HB8 := hid (HB6.out.trans (HB68.out.mono HB6.out.size))
        clear hown7 hown8 hg8 hat8 hB78
        go_wp2_with fail
        with_reducible refine (ref_Same _ _ (xs ++ [⟨#[108, 97, 115, 116]⟩]) (xs ++ [⟨#[108, 97, 115, 116]⟩]) w8.heap.size _ (by simpa using HL8.out) (by simpa using HO8.out)).mono ?_
        rintro e w9 ⟨rfl, n9, rfl⟩
        rw [decide_eq_true rfl]
        go_wp2
        go_ret
        exact ⟨rfl, below_drewN HB8.out⟩

end Go.Proofs.YtdncdlcfgljheaaDoor
