/- Contracts of text.Trim, text.Valid and of the sanity check of the law of texts. -/
import Derived.Shelf.Unicode.ValidAny
import Derived.Test.YtdncdlcfgljheaaDoorLl
import Derived.Test.YtdncdlcfgljheaaDoorPp
import Derived.Test.YtdncdlcfgljheaaDoorTw
namespace Go.Proofs.YtdncdlcfgljheaaDoor
open Go.RowKit Go.Shelf

def trimS (s : ByteArray) : ByteArray := ⟨(Lib.trimB s.data.toList 32).toArray⟩
theorem text_Trim (s : ByteArray) (w : World) (hs : s.size ≤ 1099511627776) : Calls Tryd.prog 13 #[.string s] w (Quiet w (.string (trimS s))) := by
  have HT : Hid (∀ W, Calls Tryd.prog 40 #[.string s, .string ⟨#[32]⟩] W (Quiet W (.string (trimS s)))) := hid (fun W => (Tryd.strings_Trim_one s 32 (by decide) W (by omega)).mono fun e w' h => by
    obtain ⟨rfl, h | h⟩ := h
    · exact ⟨rfl, 0, h⟩
    · exact ⟨rfl, 1, h⟩)
  go_enter Tryd.func13, Tryd.ntmps13
  go_wp2_with fail
  with_reducible refine (HT.out _).mono ?_
  rintro e w1 ⟨rfl, k, rfl⟩
  go_wp2
  go_ret
  exact ⟨rfl, k, rfl⟩

/-- Go's own tables of UTF-8 hold what they should -/
def Tabs (w : World) : Prop := Lib.Utf8Tabs 0 1 w
theorem Tabs.below {w w' : World} (h : Tabs w) (hb : Below w.heap.size w w') : Tabs w' := Utf8Tabs_below h hb
theorem text_Valid (s : ByteArray) (w : World) (hs : s.size ≤ 1099511627776) (hT : Tabs w) : Calls Tryd.prog 18 #[.string s] w (Ret w (.bool (Lib.validD s.data.toList))) := by
  have HV : Hid (∀ W, Tabs W → Calls Tryd.prog 51 #[.string s] W (Ret W (.bool (Lib.validD s.data.toList)))) := hid (fun W h => Any.utf8_ValidString Tryd.lays196 s W (by omega) h)
  have HT := hid hT
  clear hT
  generalize Lib.validD s.data.toList = b at *
  go_enter Tryd.func18, Tryd.ntmps18
  go_wp2_with fail
  with_reducible refine (HV.out _ HT.out).mono ?_
  rintro e w1 ⟨rfl, hb⟩
  go_wp2
  go_ret
  exact ⟨rfl, hb⟩

theorem k_tok : toksB (foldB ⟨#[85, 110, 105, 116, 32, 55, 44, 32, 66, 108, 111, 99, 107, 45, 66]⟩) = [⟨#[117, 110, 105, 116]⟩, ⟨#[55]⟩, ⟨#[98, 108, 111, 99, 107]⟩, ⟨#[98]⟩] := by decide +kernel
theorem k_pat : patB ⟨#[65, 66, 45, 50, 48, 50, 54, 32, 120]⟩ = ⟨#[65, 43, 45, 57, 43, 32, 97]⟩ := by decide +kernel
theorem k_trim : trimS ⟨#[32, 97, 32]⟩ = ⟨#[97]⟩ := by decide +kernel
theorem k_valid : Lib.validD (⟨#[195, 169]⟩ : ByteArray).data.toList = true := by decide +kernel
theorem k_lines : (linesB ⟨#[97, 13, 10, 98]⟩).length = 2 := by decide +kernel

set_option maxRecDepth 100000 in
set_option maxHeartbeats 2000000 in
theorem law02_sane (w : World) (hT : Tabs w) : Calls Tryd.prog 8 #[] w (Ret w (.bool true)) := by
  have HT := hid hT
  clear hT
  have H1 := hid (fun W => text_Tokens ⟨#[85, 110, 105, 116, 32, 55, 44, 32, 66, 108, 111, 99, 107, 45, 66]⟩ W (by decide))
  rw [k_tok] at H1
  have H2 := hid (fun W => text_Pattern ⟨#[65, 66, 45, 50, 48, 50, 54, 32, 120]⟩ W (by decide))
  rw [k_pat] at H2
  have H3 := hid (fun W => text_Trim ⟨#[32, 97, 32]⟩ W (by decide))
  rw [k_trim] at H3
  have H4 := hid (fun W h => text_Valid ⟨#[195, 169]⟩ W (by decide) h)
  rw [k_valid] at H4
  have H5 : Hid (∀ W, Calls Tryd.prog 17 #[.string ⟨#[97, 13, 10, 98]⟩] W (fun e w' => ∃ a c, e = .returned (.slice a 2 c) ∧ Below W.heap.size W w')) := hid (fun W => (text_Lines ⟨#[97, 13, 10, 98]⟩ W (by decide)).mono fun e w' h => by
    obtain ⟨a, c, rfl, _, hb⟩ := h
    exact ⟨a, c, by rw [k_lines], hb⟩)
  go_enter Tryd.func8, Tryd.ntmps8
  go_wp2_with fail
  with_reducible refine (H1.out _).mono ?_
  rintro e w1 ⟨a1, c1, rfl, ho1, hb1⟩
  have hrd := rdS_of_own ho1
  obtain ⟨a, c, he, hc, hm, hx⟩ := hrd
  obtain ⟨rfl, -, rfl⟩ := Value.slice.inj he
  obtain ⟨b, o, rfl, hb, hcell⟩ := hx (by decide)
  have x0 : w1.cell? ⟨b, o + 2, none⟩ = some (.string ⟨#[98, 108, 111, 99, 107]⟩) := hcell 2 (by decide)
  have HB1 := hid hb1
  have hl4 : ([⟨#[117, 110, 105, 116]⟩, ⟨#[55]⟩, ⟨#[98, 108, 111, 99, 107]⟩, ⟨#[98]⟩] : List ByteArray).length = 4 := rfl
  rw [hl4] at hc ⊢
  clear ho1 he hx hcell hb1 hl4
  go_wp2_with fail
  with_reducible refine (H2.out _).mono ?_
  rintro e w2 ⟨rfl, hb2⟩
  have x1 := cell_later hb2 x0
  have HB2 := hid (HB1.out.trans (hb2.mono HB1.out.size))
  clear hb2 x0
  go_wp2_with fail
  with_reducible refine (H3.out _).mono ?_
  rintro e w3 ⟨rfl, k3, rfl⟩
  go_wp2_with fail
  with_reducible refine (H4.out _ (by exact HT.out.below (below_drewN HB2.out))).mono ?_
  rintro e w4 ⟨rfl, hb4⟩
  have HB4 := hid ((below_drewN (n := k3) HB2.out).trans (hb4.mono HB2.out.size))
  clear hb4
  go_wp2_with fail
  with_reducible refine (H5.out _).mono ?_
  rintro e w5 ⟨a5, c5, rfl, hb5⟩
  have HB5 := hid (HB4.out.trans (hb5.mono HB4.out.size))
  clear hb5
  go_wp2
  go_ret
  exact ⟨rfl, HB5.out⟩

end Go.Proofs.YtdncdlcfgljheaaDoor
