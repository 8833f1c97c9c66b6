/- Contracts of Tokens, the program's and the reference's. -/
import Derived.Test.YtdncdlcfgljheaaDoorTp
import Derived.Test.YtdncdlcfgljheaaDoorSm
namespace Go.Proofs.YtdncdlcfgljheaaDoor
open Go.RowKit Go.Shelf Go.Sort Go.Lib

theorem ownsRow_base_s {W : World} {base base' : Nat} {e : TypeId} {size : Nat} {v : Value} {k : Nat} {xs : List Value} (h : W.ownsRow base e size v k xs) (hb : base' ≤ base) : W.ownsRow base' e size v k xs := by
  refine ⟨h.1, ?_⟩
  rcases h.2 with h0 | ⟨g, cap, cur, hv, hg, rest⟩
  · exact .inl h0
  · exact .inr ⟨g, cap, cur, hv, by omega, rest⟩

set_option maxRecDepth 100000 in
theorem tokens_pred (w : World) : PredAt Tryd.prog 42 #[] encR (fun r => !inTok r) w := by
  intro W r _
  unfold FnGives
  have HT : Hid (∀ c, inTok c = decide ((48 ≤ c ∧ c ≤ 57) ∨ (97 ≤ c ∧ c ≤ 122) ∨ 128 ≤ c)) := hid (fun _ => rfl)
  have hb : ∀ b : Bool, (!inTok r) = b → Ending.returned (.bool b) = .returned (.bool (!inTok r)) := fun b e => by rw [e]
  by_cases h1 : r < 128
  · by_cases h2 : r < 48
    · by_cases h3 : r < 97
      · go_enter Tryd.func42, Tryd.ntmps42
        go_wp2
        go_ret
        exact ⟨hb _ (by rw [HT.out, Bool.eq_iff_iff]; simp only [Bool.and_eq_true, Bool.or_eq_true, Bool.not_eq_true', decide_eq_false_iff_not, decide_eq_true_eq, Bool.false_eq_true, iff_false, iff_true]; omega), 0, rfl⟩
      · omega
    · by_cases h2' : 57 < r
      · by_cases h3 : r < 97
        · go_enter Tryd.func42, Tryd.ntmps42
          go_wp2
          go_ret
          exact ⟨hb _ (by rw [HT.out, Bool.eq_iff_iff]; simp only [Bool.and_eq_true, Bool.or_eq_true, Bool.not_eq_true', decide_eq_false_iff_not, decide_eq_true_eq, Bool.false_eq_true, iff_false, iff_true]; omega), 0, rfl⟩
        · by_cases h4 : 122 < r
          · go_enter Tryd.func42, Tryd.ntmps42
            go_wp2
            go_ret
            exact ⟨hb _ (by rw [HT.out, Bool.eq_iff_iff]; simp only [Bool.and_eq_true, Bool.or_eq_true, Bool.not_eq_true', decide_eq_false_iff_not, decide_eq_true_eq, Bool.false_eq_true, iff_false, iff_true]; omega), 0, rfl⟩
          · go_enter Tryd.func42, Tryd.ntmps42
            go_wp2
            go_ret
            exact ⟨hb _ (by rw [HT.out, Bool.eq_iff_iff]; simp only [Bool.and_eq_true, Bool.or_eq_true, Bool.not_eq_true', decide_eq_false_iff_not, decide_eq_true_eq, Bool.false_eq_true, iff_false, iff_true]; omega), 0, rfl⟩
      · go_enter Tryd.func42, Tryd.ntmps42
        go_wp2
        go_ret
        exact ⟨hb _ (by rw [HT.out, Bool.eq_iff_iff]; simp only [Bool.and_eq_true, Bool.or_eq_true, Bool.not_eq_true', decide_eq_false_iff_not, decide_eq_true_eq, Bool.false_eq_true, iff_false, iff_true]; omega), 0, rfl⟩
  · go_enter Tryd.func42, Tryd.ntmps42
    go_wp2
    go_ret
    exact ⟨hb _ (by rw [HT.out, Bool.eq_iff_iff]; simp only [Bool.and_eq_true, Bool.or_eq_true, Bool.not_eq_true', decide_eq_false_iff_not, decide_eq_true_eq, Bool.false_eq_true, iff_false, iff_true]; omega), 0, rfl⟩

set_option maxHeartbeats 1000000 in
theorem text_Tokens (s : ByteArray) (w : World) (hs : s.size ≤ 1073741824) :
    Calls Tryd.prog 14 #[.string s] w (GivesS w (toksB (foldB s))) := by
  have HF := hid (fun W => text_Fold s W (by omega))
  have hsz : (foldB s).size ≤ 4294967296 := by rw [foldB_size]; omega
  have HFF := hid (fun W => Tryd.strings_FieldsFunc 42 #[] (enters_of Tryd.func42 (by kernel_rfl) rfl) (fun r => !inTok r) (foldB s) W hsz (tokens_pred W))
  rw [fields_eq] at HFF
  generalize foldB s = t at *
  generalize toksB t = ts at *
  go_enter Tryd.func14, Tryd.ntmps14
  go_wp2_with fail
  with_reducible refine (HF.out _).mono ?_
  rintro e w1 ⟨rfl, hb1⟩
  go_wp2_with fail
  with_reducible refine (HFF.out _).mono ?_
  rintro e w2 ⟨A, rfl, hA, hown, hb2⟩
  go_wp2
  go_ret
  exact ⟨_, _, rfl, ownsRow_base_s hown hb1.size, hb1.trans (hb2.mono hb1.size)⟩

end Go.Proofs.YtdncdlcfgljheaaDoor
