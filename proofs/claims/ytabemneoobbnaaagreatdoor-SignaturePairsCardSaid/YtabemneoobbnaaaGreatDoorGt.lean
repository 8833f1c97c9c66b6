/- Contract of the reference's Set. -/
import Derived.Test.YtabemneoobbnaaaGreatDoorGs
import Derived.Test.YtabemneoobbnaaaGreatDoorAp
namespace Go.Proofs.YtabemneoobbnaaaGreatDoor
open Go.RowKit

theorem info_str : (Tryz.prog.info? 9).map (fun i => (i.zero, i.size, i.bytes)) = some (some (.string ⟨#[]⟩), 1, 16) := by kernel_rfl

theorem smap_get {xs : List ByteArray} {i : Nat} (h : i < xs.length) : (xs.map Value.string)[i]? = some (.string (xs.getD i ⟨#[]⟩)) := by simp [List.getD, h]
theorem smap_one (xs : List ByteArray) : ∀ u ∈ xs.map Value.string, u.oneCell' = true := by
  intro u hu
  obtain ⟨_, _, rfl⟩ := List.mem_map.1 hu
  rfl
/-- new texts -/
def GivesS (w : World) (xs : List ByteArray) (e : Ending) (w' : World) : Prop :=
  ∃ a c, e = .returned (.slice a xs.length c) ∧ w'.ownsRow w.heap.size 9 1 (.slice a xs.length c) xs.length (xs.map Value.string) ∧ Below w.heap.size w w'
theorem rdS_of_own {w : World} {base : Nat} {v : Value} {xs : List ByteArray} (h : w.ownsRow base 9 1 v xs.length (xs.map Value.string)) : RdS w w.heap.size v xs :=
  rd_of_owns h _ (fun _ hi => smap_get hi)

/-- the state of the loop -/
def SetSt (w wr : World) (xs : List ByteArray) (k : Nat) (v : Value) (acc : List ByteArray) : Prop :=
  acc = (xs.take k).foldl put1 [] ∧ wr.ownsRow w.heap.size 9 1 v acc.length (acc.map Value.string) ∧ (acc.length = 0 → v = .slice none 0 0) ∧ Below w.heap.size w wr
theorem take_foldl {xs : List ByteArray} {k : Nat} (h : k < xs.length) : (xs.take (k + 1)).foldl put1 [] = put1 ((xs.take k).foldl put1 []) (xs.getD k ⟨#[]⟩) := by
  rw [List.take_succ_eq_append_getElem h, List.foldl_append]
  simp [List.getD, h]
theorem take_foldl_len (xs : List ByteArray) (k : Nat) : ((xs.take k).foldl put1 []).length ≤ k := by
  have := (foldl_put1 (xs.take k) [] List.Pairwise.nil).2.1
  have h2 : (xs.take k).length ≤ k := List.length_take_le _ _
  simp at this h2
  omega

set_option maxRecDepth 100000 in
set_option maxHeartbeats 2000000 in
theorem ref_Set (v0 : Value) (xs : List ByteArray) (B : Nat) (w : World) (hv : RdS w B v0 xs) (hB : B ≤ w.heap.size) (hlen : xs.length ≤ 1099511627776) :
    Calls Tryz.prog 51 #[v0] w (GivesS w (setOfL xs)) := by
  obtain ⟨a, c, rfl, hc, hm, hx⟩ := hv
  obtain ⟨i0, hi, hz0, hz1, hz2⟩ := info_parts info_str
  have HTF := hid (fun k h => @take_foldl xs k h)
  have HTL := hid (fun k => take_foldl_len xs k)
  have HFIN : Hid (setOfL xs = (xs.take xs.length).foldl put1 []) := hid (by rw [List.take_length]; rfl)
  generalize setOfL xs = F at *
  generalize hn : xs.length = n at *
  have HX := hid hx
  clear hn hx
  unfold maxLen at hm
  go_enter Tryz.func51, Tryz.ntmps51
  go_wp2
  go_loopg [9, 3] n (fun N i v wr => ∃ (k : Nat) (acc : List ByteArray), n - k = N ∧ k ≤ n ∧ i = .int .i64 k ∧ acc.length ≤ k ∧ Hid (SetSt w wr xs k v acc))
  case atStart => exact ⟨0, [], by omega, by omega, rfl, by simp, hid ⟨by simp, World.ownsRow_nil _ _ _ _, fun _ => rfl, Below.refl _ _⟩⟩
  case round =>
    obtain ⟨k, acc, rfl, hk, rfl, hal, hst⟩ := hrel
    obtain ⟨hacc, hown, hnil, hbl⟩ := hst.out
    obtain ⟨a3, c3, rfl⟩ := own_slice hown
    have HACC := hid hacc
    have HOWN := hid hown
    have HNIL := hid hnil
    have HBL := hid hbl
    have hbs := hbl.size
    clear hacc hown hnil hbl hst
    by_cases hlt : k < n
    · obtain ⟨b, o, rfl, hb, hcell⟩ := HX.out (by omega)
      have h1 : wr.cell? ⟨b, o + k, none⟩ = some (.string (xs.getD k ⟨#[]⟩)) := (HBL.out.cell (p := ⟨b, o + k, none⟩) (by show b < w.heap.size; omega)).trans (hcell k hlt)
      have HNEXT := hid (HTF.out k hlt)
      clear hcell
      generalize hs : xs.getD k ⟨#[]⟩ = s at *
      have HS := hid hs
      have hq := before_le s acc
      have HQ1 := hid (fun i hi => before_lt s acc i hi)
      have HQ2 := hid (before_at s acc)
      have HPUT : Hid (put1 acc s = if before s acc = acc.length ∨ acc.getD (before s acc) ⟨#[]⟩ ≠ s then acc.take (before s acc) ++ s :: acc.drop (before s acc) else acc) := hid rfl
      generalize before s acc = kb at *
      generalize hm2 : acc.length = m at *
      have HM := hid hm2
      clear hs hm2
      go_wp2
      go_loop [6] (fun i => ∃ q : Nat, q ≤ kb ∧ i = .int .i64 q) (fun i => kb - (intOf i).toNat)
      case atStart => exact ⟨0, by omega, rfl⟩
      case round =>
        clear h1
        obtain ⟨q, hqk, rfl⟩ := hrel
        by_cases hqlt : q < kb
        · obtain ⟨g, cap, e3, hg, hgz⟩ := HOWN.out.form (by omega)
          obtain ⟨rfl, _, rfl⟩ := Value.slice.inj e3
          clear e3
          have h2 : wr.cell? ⟨g, q, none⟩ = some (.string (acc.getD q ⟨#[]⟩)) := (HOWN.out.cellAt q (by omega)).trans (smap_get (by have := HM.out; omega))
          have h3 : Op.bytesLess (acc.getD q ⟨#[]⟩).toList s.toList = true := HQ1.out q hqlt
          generalize acc.getD q ⟨#[]⟩ = aq at *
          go_wp2
          go_round
          case rel => exact ⟨q + 1, by omega, by go_num⟩
          case measure => simp [intOf]; omega
        · obtain rfl : q = kb := by omega
          clear hqlt
          rcases Nat.eq_zero_or_pos m with rfl | hmp
          · obtain rfl : q = 0 := by omega
            obtain ⟨rfl, _, rfl⟩ := Value.slice.inj (HNIL.out rfl)
            go_wp2
            go_region_law ((refine step_append_form _ rfl (.tmp 41) (.tmp 47) 26 26 rfl w.heap.size 9 9 i0 (.string ⟨#[]⟩) 1 16 Tryz.underlying26 Tryz.underlying26 hi hz0 hz1 hz2 rfl (by decide) (.slice none 0 0) 0 [] (by simp [Act.eval, Act.put]) (World.ownsRow_nil _ _ _ _) (some ⟨wr.heap.size, 0, none⟩) 1 1 [.string s] (by simp [Act.eval, Act.put]) rfl (fun _ => ⟨_, rfl, cell_one_new wr (.string s) 9⟩) (smap_one [s]) (by omega) (by unfold maxLen; omega) (by omega) (by simp; omega) ?_); intro g2 cap2 w2 hown2 hg2 hat2 hlt2)
            have hb2 : Below w.heap.size w w2 := (HBL.out.alloc (by omega) (.cells #[.string s] 9)).drew.grown hg2 (by simp; omega) (fun k hk => by cases hk)
            have HB2 := hid hb2
            have HO2 := hid hown2
            clear hb2 hown2 hg2 hat2 hlt2
            go_wp2
            go_roundg (n - (k + 1))
            case rel => exact ⟨k + 1, [s], by omega, by omega, by go_num, by simp, hid ⟨by rw [HNEXT.out, ← HACC.out, List.eq_nil_of_length_eq_zero HM.out]; rfl, HO2.out, fun h => by simp at h, HB2.out⟩⟩
            case measure => omega
          · obtain ⟨g, cap, e3, hg, hgz⟩ := HOWN.out.form hmp
            obtain ⟨rfl, _, rfl⟩ := Value.slice.inj e3
            clear e3
            obtain ⟨hcap, hcm, _, _⟩ := own_caps HOWN.out
            unfold maxLen at hcm
            have hqc : q ≤ c3 := by omega
            by_cases hqm : q = m
            · subst hqm
              obtain ⟨oo, hA⟩ : ∃ oo, (if c3 = q then some ⟨g, 0, none⟩ else some ⟨g, q, none⟩ : Option Addr) = some ⟨g, oo, none⟩ := by
                split
                · exact ⟨0, rfl⟩
                · exact ⟨q, rfl⟩
              have HP4 : Hid (0 < q + 1) := hid (by omega)
              have HP5 : Hid (q + 1 ≤ maxLen) := hid (by unfold maxLen; omega)
              have HP6 : Hid ((q + 1) * 16 ≤ 140737488355328) := hid (by omega)
              have HO1 := hid ((HOWN.out.alloc (.cells #[.string s] 9)).drew)
              have HLE : Hid (w.heap.size ≤ (wr.alloc (.cells #[.string s] 9)).heap.size) := hid (by rw [World.size_alloc]; omega)
              go_wp2
              go_region_law ((refine step_append_form _ rfl (.tmp 41) (.tmp 47) 26 26 rfl w.heap.size 9 9 i0 (.string ⟨#[]⟩) 1 16 Tryz.underlying26 Tryz.underlying26 hi hz0 hz1 hz2 rfl Nat.one_pos (.slice (some ⟨g, 0, none⟩) q c3) q (acc.map Value.string) rfl HO1.out (some ⟨wr.heap.size, 0, none⟩) 1 1 [.string s] rfl rfl (fun _ => ⟨_, rfl, cell_one_new wr (.string s) 9⟩) (smap_one [s]) HP4.out HP5.out HP6.out HLE.out ?_); intro g2 cap2 w2 hown2 hg2 hat2 hlt2)
              have hb2 : Below w.heap.size w w2 := (HBL.out.alloc (by omega) (.cells #[.string s] 9)).drew.grown hg2 (by simp; omega) (fun k hk => by
                  have : g = k := by simpa [Value.ownBlock] using hk
                  omega)
              have HB2 := hid hb2
              have HO2 := hid hown2
              have HL2 : Hid ((acc ++ [s]).length = q + 1) := hid (by have := HM.out; simp; omega)
              clear hb2 hown2 hg2 hat2 hlt2
              go_wp2
              go_roundg (n - (k + 1))
              case rel => exact ⟨k + 1, acc ++ [s], by omega, by omega, by go_num, by rw [HL2.out]; omega, hid ⟨by rw [HNEXT.out, ← HACC.out, HPUT.out, if_pos (.inl trivial), ← HM.out, List.take_length, List.drop_length], by rw [HL2.out]; simpa using HO2.out, fun h => by rw [HL2.out] at h; omega, HB2.out⟩⟩
              case measure => omega
            · have hqm2 : q < m := by omega
              have hqm3 : ((q : Int) == (m : Int)) = false := by simp; omega
              have h2 : wr.cell? ⟨g, q, none⟩ = some (.string (acc.getD q ⟨#[]⟩)) := (HOWN.out.cellAt q (by omega)).trans (smap_get (by have := HM.out; omega))
              have h3 : Op.bytesLess (acc.getD q ⟨#[]⟩).toList s.toList = false := HQ2.out hqm2
              generalize hAQ : acc.getD q ⟨#[]⟩ = aq at *
              by_cases heq : aq = s
              · have h4 : (aq.toList == s.toList) = true := by subst heq; simp
                have HEQ := hid heq
                clear heq
                go_wp2
                go_roundg (n - (k + 1))
                case rel => exact ⟨k + 1, acc, by omega, by omega, by go_num, by have := HM.out; omega, hid ⟨by rw [HNEXT.out, ← HACC.out, HPUT.out, if_neg (fun h => h.elim (fun h => by omega) (fun h => h HEQ.out))], by have := HOWN.out; rw [HM.out]; exact this, by rw [HM.out]; exact HNIL.out, HBL.out⟩⟩
                case measure => omega
              · have h4 : (aq.toList == s.toList) = false := by
                  cases h5 : (aq.toList == s.toList) with
                  | false => rfl
                  | true => exact absurd (bytes_ext (eq_of_beq h5)) heq
                have HEQ := hid heq
                clear heq
                have HDL : Hid (((acc.map Value.string).drop q).length = (m - q) * 1) := hid (by have := HM.out; simp; omega)
                have HDL2 : Hid (([Value.string s] ++ (acc.map Value.string).drop q).length = (1 + (m - q)) * 1) := hid (by have := HM.out; simp; omega)
                have HDC := hid (own_drop (k := q) ((HOWN.out).alloc (.cells #[.string s] 9)))
                have HD1 : Hid (∀ u ∈ (acc.map Value.string).drop q, u.oneCell' = true) := hid (fun u hu => smap_one acc u (List.mem_of_mem_drop hu))
                have HD3 : Hid (∀ u ∈ [Value.string s] ++ (acc.map Value.string).drop q, u.oneCell' = true) := hid (fun u hu => by
                  rcases List.mem_append.1 hu with h | h
                  · exact smap_one [s] u h
                  · exact HD1.out u h)
                have hcq : ¬ c3 = q := by omega
                have HOL : Hid ((wr.alloc (.cells #[.string s] 9)).ownsRow wr.heap.size 9 1 (.slice (some ⟨wr.heap.size, 0, none⟩) 1 1) 1 [.string s]) := hid (World.ownsRow_lit wr #[.string s] 1 (Nat.le_refl _) (by simp [maxLen]) rfl)
                have HLE : Hid (wr.heap.size ≤ (wr.alloc (.cells #[.string s] 9)).heap.size) := hid (by rw [World.size_alloc]; omega)
                have HP1 : Hid (0 < 1 + (m - q)) := hid (by omega)
                have HP2 : Hid (1 + (m - q) ≤ maxLen) := hid (by unfold maxLen; omega)
                have HP3 : Hid ((1 + (m - q)) * 16 ≤ 140737488355328) := hid (by omega)
                have HP4 : Hid (0 < q + (1 + (m - q))) := hid (by omega)
                have HP5 : Hid (q + (1 + (m - q)) ≤ maxLen) := hid (by unfold maxLen; omega)
                have HP6 : Hid ((q + (1 + (m - q))) * 16 ≤ 140737488355328) := hid (by omega)
                have HQM : Hid (q ≤ m) := hid (by omega)
                have HNE : Hid ((Value.slice (some ⟨g, 0, none⟩) m c3).ownBlock ≠ (Value.slice (some ⟨wr.heap.size, 0, none⟩) 1 1).ownBlock) := hid (fun e => by
                  have : g = wr.heap.size := by simpa [Value.ownBlock] using e
                  omega)
                go_wp2
                go_region_law (first | ((refine step_append_form _ rfl (.tmp 43) (.tmp 46) 26 26 rfl wr.heap.size 9 9 i0 (.string ⟨#[]⟩) 1 16 Tryz.underlying26 Tryz.underlying26 hi hz0 hz1 hz2 rfl Nat.one_pos (.slice (some ⟨wr.heap.size, 0, none⟩) 1 1) 1 [.string s] rfl HOL.out (some ⟨g, q, none⟩) (m - q) (c3 - q) ((acc.map Value.string).drop q) rfl HDL.out (fun _ => ⟨_, rfl, HDC.out⟩) HD1.out HP1.out HP2.out HP3.out HLE.out ?_); intro g1 cap1 w1 hown1 hg1 hat1 hlt1; have HD2 := hid (hown1.cells (g := g1) rfl); have HT2 := hid (own_take ((HOWN.out.alloc (.cells #[.string s] 9)).drew.kept hg1 (.inr HNE.out)) HQM.out)) | ((refine step_append_form _ rfl (.tmp 41) (.tmp 47) 26 26 rfl w.heap.size 9 9 i0 (.string ⟨#[]⟩) 1 16 Tryz.underlying26 Tryz.underlying26 hi hz0 hz1 hz2 rfl Nat.one_pos (.slice (some ⟨g, 0, none⟩) q c3) q ((acc.map Value.string).take q) rfl HT2.out (some ⟨g1, 0, none⟩) (1 + (m - q)) cap1 ([.string s] ++ (acc.map Value.string).drop q) rfl HDL2.out (fun _ => ⟨_, rfl, HD2.out⟩) HD3.out HP4.out HP5.out HP6.out (by have := hg1.size; simp at this; omega) ?_); intro g2 cap2 w2 hown2 hg2 hat2 hlt2))
                have hb1 : Below w.heap.size w w1 := (HBL.out.alloc (by omega) (.cells #[.string s] 9)).drew.grown hg1 (by simp; omega) (fun k hk => by
                  have : wr.heap.size = k := by simpa [Value.ownBlock] using hk
                  omega)
                have hz1' := hg1.size
                simp at hz1'
                have HB2 := hid (hb1.grown hg2 (by omega) (fun k hk => by
                  have : g = k := by simpa [Value.ownBlock] using hk
                  omega))
                have HO2 := hid hown2
                have HL2 : Hid ((acc.take q ++ s :: acc.drop q).length = q + (1 + (m - q))) := hid (by have := HM.out; simp; omega)
                clear hb1 hown1 hg1 hat1 hlt1 hown2 hg2 hat2 hlt2 hz1'
                go_wp2
                go_roundg (n - (k + 1))
                case rel => exact ⟨k + 1, acc.take q ++ s :: acc.drop q, by omega, by omega, by go_num, by rw [HL2.out]; omega, hid ⟨by rw [HNEXT.out, ← HACC.out, HPUT.out, if_pos (.inr HEQ.out)], by rw [HL2.out]; simpa using HO2.out, fun h => by rw [HL2.out] at h; omega, HB2.out⟩⟩
                case measure => omega
    · obtain rfl : k = n := by omega
      have hfin : F = acc := HFIN.out.trans HACC.out.symm
      subst hfin
      have HFI : Hid (GivesS w F (.returned (.slice a3 F.length c3)) wr) := hid ⟨a3, c3, rfl, HOWN.out, HBL.out⟩
      generalize F.length = L at *
      go_wp2
      go_ret
      exact HFI.out

end Go.Proofs.YtabemneoobbnaaaGreatDoor
