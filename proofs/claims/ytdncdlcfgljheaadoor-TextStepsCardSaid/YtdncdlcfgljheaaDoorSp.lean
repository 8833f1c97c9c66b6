/- Contract of the reference's Pattern. -/
import Derived.Test.YtdncdlcfgljheaaDoorSq
import Derived.Test.YtdncdlcfgljheaaDoorPc
import Derived.Test.YtdncdlcfgljheaaDoorPp
import Derived.Test.YtdncdlcfgljheaaDoorGa
namespace Go.Proofs.YtdncdlcfgljheaaDoor
open Go.RowKit

theorem info_i32 : (Tryd.prog.info? 21).map (fun i => (i.zero, i.size, i.bytes)) = some (some (.int .i32 0), 1, 4) := by kernel_rfl
theorem nmap_snoc32 (xs : List Nat) (x : Nat) : (xs.map fun x : Nat => Value.int .i32 (x : Int)) ++ [.int .i32 (x : Int)] = (xs ++ [x]).map fun x : Nat => Value.int .i32 (x : Int) := by simp

set_option maxRecDepth 100000 in
set_option maxHeartbeats 2000000 in
theorem ref_Pattern (s : ByteArray) (w : World) (hs : s.size ≤ 1073741824) :
    Calls Tryd.prog 26 #[.string s] w (Ret w (.string (patB s))) := by
  obtain ⟨i0, hi, hz0, hz1, hz2⟩ := info_parts info_i32
  have HPB := hid (patB_bytes s)
  generalize patB s = R at *
  go_enter Tryd.func26, Tryd.ntmps26
  go_wp2
  go_loopg [3] (s.size + 1) (fun M v wr => ∃ (pos b : Nat) (acc : List Nat), b + 1 = M ∧ wr.heap[w.heap.size]? = some (.stringIter s pos) ∧ wr.ownsRow w.heap.size 21 1 v acc.length (acc.map fun x : Nat => Value.int .i32 (x : Int)) ∧
    Hid (acc ++ (ptsFrom s b pos).map clsN = (pts s).map clsN) ∧ s.size ≤ pos + b ∧ acc.length ≤ pos ∧ Hid (Below w.heap.size w wr))
  case atStart => exact ⟨0, s.size, [], rfl, heap_alloc_new w _, World.ownsRow_nil _ _ _ _, hid (by simp [pts]), by omega, Nat.le_refl _, hid ((Below.refl _ _).alloc (Nat.le_refl _) _)⟩
  case round =>
    obtain ⟨pos, b, acc, rfl, hit, hown, hacc, hb, hl, HB⟩ := hrel
    have HIT := hid hit
    have hbs := HB.out.size
    by_cases hp : pos < s.size
    · have hnx : ∀ ty, (Instr.next (.pointer (some ⟨w.heap.size, 0, none⟩)) true ty).run Tryd.prog wr = _ := fun ty => Lib.run_next_any_at wr w.heap.size s pos ty hit hp
      have hwd := Lib.decode_width_pos s pos hp
      have hle := decode_le s pos
      have hrl := Lib.rune_le s pos
      have hown2 := own_iterAt hown hit (pos + (Utf8.decode s pos).2)
      have hit2 := hid (Lib.iterAt_heap wr w.heap.size s pos (pos + (Utf8.decode s pos).2) hit)
      have hbl2 := hid (Lib.below_iterAt HB.out (Nat.le_refl _) s (pos + (Utf8.decode s pos).2))
      have hsz2 := Lib.iterAt_size wr w.heap.size s (pos + (Utf8.decode s pos).2)
      have HN := hid (fun f => ptsFrom_next s f pos hp)
      have HCL := hid (fun W' => ref_class (Utf8.decode s pos).1 (by omega) W')
      clear hit hown
      generalize (Utf8.decode s pos).1 = r at *
      generalize (Utf8.decode s pos).2 = wd at *
      have hsz3 : w.heap.size ≤ (wr.iterAt w.heap.size s (pos + wd)).heap.size := by omega
      clear hsz2
      generalize wr.iterAt w.heap.size s (pos + wd) = W at *
      go_wp2_with fail
      with_reducible refine (HCL.out _).mono ?_
      rintro e w1 ⟨rfl, rfl⟩
      go_wp2_with (at_builtin; refine wpList_append_own _ rfl _ _ 80 rfl (w.heap.size) 21 i0 (.int .i32 0) 1 4 Tryd.underlying80 hi hz0 hz1 hz2 rfl (by decide) _ _ _ rfl (hown2.alloc _) ⟨_, 0, none⟩ 1 1 [(.int .i32 ((clsN r : Nat) : Int))] rfl rfl (cell_one_new _ _ _) (by intro u hu; simp at hu; subst hu; rfl) (by unfold maxLen; omega) (by omega) (by simp; omega) ?_)
      intro v' w2 hown' hgrow _
      have hbl3 := hid (push_below hbl2.out hsz3 hown2 hgrow)
      have hit3 := hid (iter_push hown2 hit2.out hgrow)
      rw [nmap_snoc32] at hown'
      clear hgrow hown2 hnx
      go_wp2
      go_roundg b
      case rel =>
        cases b with
        | zero => omega
        | succ b => exact ⟨pos + wd, b, acc ++ [clsN r], rfl, hit3.out, by simpa using hown', hid (by rw [← hacc.out, HN.out b, List.append_assoc]; rfl), by omega, by simp; omega, hbl3⟩
      case measure => omega
    · have hnx : ∀ ty, (Instr.next (.pointer (some ⟨w.heap.size, 0, none⟩)) true ty).run Tryd.prog wr = _ := fun ty => Lib.run_next_end_at wr w.heap.size s pos ty hit hp
      clear hit
      have ha := hacc.out
      rw [ptsFrom_end s b pos hp, List.map_nil, List.append_nil] at ha
      have HR : Hid (R = bytesB (patL acc)) := hid (by rw [HPB.out, ha])
      have H128 : Hid (∀ i, acc.getD i 0 < 128) := hid (fun i => by
        rw [ha]
        by_cases h : i < (pts s).length
        · simp [List.getD, h]; exact clsN_lt _
        · simp [List.getD, h])
      obtain ⟨a', c3, he, hnc, hcm, hx⟩ := rd_of_owns hown (fun i => .int .i32 ((acc.getD i 0 : Nat) : Int)) (fun i hi => by simp [List.getD, hi])
      subst he
      have HX := hid hx
      have hal : acc.length ≤ s.size := by have := pts_le s; have e := congrArg List.length ha; simp at e; omega
      clear hown ha hacc HIT HPB hb hl hx
      obtain ⟨wb, rfl⟩ : ∃ wb, wb = wr := ⟨wr, rfl⟩
      go_wp2
      unfold maxLen at hcm
      generalize hn : acc.length = n at *
      go_loopg [6, 7] n (fun M ov iv wr => ∃ (i : Nat) (out : List Nat), n - i = M ∧ i ≤ n ∧ iv = .int .i64 i ∧ ov = .string (bytesB out) ∧ out.length ≤ 2 * i ∧ Hid (patL acc = out ++ patL (acc.drop i)) ∧ ∃ m, wr = wb.drewN m)
      case atStart => exact ⟨0, [], rfl, by omega, rfl, rfl, by simp, hid rfl, 0, rfl⟩
      case round =>
        obtain ⟨i, out, rfl, hin, rfl, rfl, hol, HO, m, rfl⟩ := hrel
        by_cases hi2 : i < n
        · obtain ⟨xb, xo, rfl, hxb, hxc⟩ := HX.out (by omega)
          have p0 := hxc i hi2
          have hc128 := H128.out i
          have HC := hid hxc
          have HGI : Hid (acc[i]? = some (acc.getD i 0)) := hid (by rw [List.getD, List.getElem?_eq_getElem (by omega)]; rfl)
          clear hxc
          generalize hcc : acc.getD i 0 = c at *
          go_upto_region 10 with fail
          go_cut [9] (fun v wc => v = .bool (runC c) ∧ ∃ m, wc = wb.drewN m)
          case first =>
            rcases (show c = 57 ∨ c = 65 ∨ c = 97 ∨ c = 117 ∨ (c ≠ 57 ∧ c ≠ 65 ∧ c ≠ 97 ∧ c ≠ 117) by omega) with rfl | rfl | rfl | rfl | ⟨h1, h2, h3, h4⟩
            · go_wp2
              go_meet
              exact ⟨rfl, m, rfl⟩
            · go_wp2
              go_meet
              exact ⟨rfl, m, rfl⟩
            · go_wp2
              go_meet
              exact ⟨rfl, m, rfl⟩
            · go_wp2
              go_meet
              exact ⟨rfl, m, rfl⟩
            · have g1 : (((c : Nat) : Int) == 57) = false := by rw [beq_eq_false_iff_ne]; omega
              have g2 : (((c : Nat) : Int) == 65) = false := by rw [beq_eq_false_iff_ne]; omega
              have g3 : (((c : Nat) : Int) == 97) = false := by rw [beq_eq_false_iff_ne]; omega
              have g4 : (((c : Nat) : Int) == 117) = false := by rw [beq_eq_false_iff_ne]; omega
              go_wp2
              go_meet
              exact ⟨by simp [runC, h1, h2, h3, h4], m, rfl⟩
          case rest =>
            obtain ⟨rfl, m2, rfl⟩ := hcut
            have hconv := conv_rune c hc128
            have hz4 : (bytesB out).size = out.length := bytesB_size out
            have hz5 : (runeS c).size = 1 := rfl
            have hz6 : (bytesB out ++ runeS c).size = out.length + 1 := by rw [ByteArray.size_append, hz4, hz5]
            have HS1 : Hid (bytesB out ++ runeS c = bytesB (out ++ [c])) := hid (bytesB_app out [c])
            have HS2 : Hid (bytesB out ++ runeS c ++ ⟨#[43]⟩ = bytesB (out ++ [c, 43])) := hid (by rw [HS1.out]; exact (bytesB_app (out ++ [c]) [43]).trans (by rw [List.append_assoc]; rfl))
            generalize hrc : runC c = rc at *
            have HRC := hid hrc
            clear hrc
            go_wp2
            go_loopg [8] (n - i) (fun M kv wr => ∃ k : Nat, n - k = M ∧ i ≤ k ∧ k ≤ n ∧ kv = .int .i64 k ∧ Hid (∀ j, i ≤ j → j < k → acc[j]? = some c) ∧ (rc = false → k ≤ i + 1) ∧ ∃ m, wr = wb.drewN m)
            case atStart => exact ⟨i, rfl, by omega, by omega, rfl, hid (fun j h1 h2 => by omega), fun _ => by omega, m2, rfl⟩
            case round =>
              obtain ⟨k, rfl, hik, hkn, rfl, HALL, hone, m3, rfl⟩ := hrel
              by_cases hkn2 : k < n
              · have q0 := HC.out k hkn2
                have HGK : Hid (acc[k]? = some (acc.getD k 0)) := hid (by rw [List.getD, List.getElem?_eq_getElem (by omega)]; rfl)
                have HKI : Hid (k = i → acc.getD k 0 = c) := hid (fun h => by rw [h]; exact hcc)
                generalize acc.getD k 0 = d at *
                by_cases hdc : d = c
                · have hb : (((d : Nat) : Int) == ((c : Nat) : Int)) = true := by rw [beq_iff_eq]; omega
                  have HALL1 : Hid (∀ j, i ≤ j → j < k + 1 → acc[j]? = some c) := hid (fun j h1 h2 => by
                    rcases Nat.lt_or_ge j k with h | h
                    · exact HALL.out j h1 h
                    · obtain rfl : j = k := by omega
                      rw [HGK.out, hdc])
                  cases rc with
                  | true =>
                    go_wp2
                    go_quiet (fail)
                    go_wp2
                    go_roundg (n - (k + 1))
                    case rel => exact ⟨k + 1, by omega, by omega, by omega, by go_num, HALL1, (fun h => by cases h), _, rfl⟩
                    case measure => omega
                  | false =>
                    have hone' := hone rfl
                    by_cases hki : k = i
                    · have hbk : (((k : Nat) : Int) == ((i : Nat) : Int)) = true := by rw [beq_iff_eq]; omega
                      go_wp2
                      go_quiet (fail)
                      go_wp2
                      go_roundg (n - (k + 1))
                      case rel => exact ⟨k + 1, by omega, by omega, by omega, by go_num, HALL1, (fun h => by omega), _, rfl⟩
                      case measure => omega
                    · have hbk : (((k : Nat) : Int) == ((i : Nat) : Int)) = false := by rw [beq_eq_false_iff_ne]; omega
                      have HP := hid (HO.out.trans (by rw [pat_step acc i k c HGI.out (by omega) (by omega) HALL.out (fun h => by omega) (fun h => by rw [HRC.out] at h; cases h)]))
                      by_cases hgt : i + 1 < k
                      · omega
                      · have HP := hid (HP.out.trans (by rw [if_neg hgt]))
                        go_wp2
                        go_quiet (fail)
                        go_wp2
                        go_roundg (n - k)
                        case rel => exact ⟨k, out ++ [c], by omega, by omega, rfl, by rw [← HS1.out], by simp; omega, hid (by rw [HP.out, List.append_assoc]), _, rfl⟩
                        case measure => omega
                · have hb : (((d : Nat) : Int) == ((c : Nat) : Int)) = false := by rw [beq_eq_false_iff_ne]; omega
                  have hki : k ≠ i := fun h => hdc (HKI.out h)
                  have HP := hid (HO.out.trans (by rw [pat_step acc i k c HGI.out (by omega) (by omega) HALL.out (fun h => by rw [HRC.out] at h; have := hone h; omega) (fun h => by rw [HGK.out]; intro e; exact hdc (Option.some.inj e))]))
                  by_cases hgt : i + 1 < k
                  · have HP := hid (HP.out.trans (by rw [if_pos hgt]))
                    go_wp2
                    go_quiet (fail)
                    go_wp2
                    go_roundg (n - k)
                    case rel => exact ⟨k, out ++ [c, 43], by omega, by omega, rfl, by rw [← HS2.out], by simp; omega, hid (by rw [HP.out, List.append_assoc]), _, rfl⟩
                    case measure => omega
                  · have HP := hid (HP.out.trans (by rw [if_neg hgt]))
                    go_wp2
                    go_quiet (fail)
                    go_wp2
                    go_roundg (n - k)
                    case rel => exact ⟨k, out ++ [c], by omega, by omega, rfl, by rw [← HS1.out], by simp; omega, hid (by rw [HP.out, List.append_assoc]), _, rfl⟩
                    case measure => omega
              · obtain rfl : k = n := by omega
                have HP := hid (HO.out.trans (by rw [pat_step acc i k c HGI.out (by omega) (by omega) HALL.out (fun h => by rw [HRC.out] at h; have := hone h; omega) (fun h => by rw [List.getElem?_eq_none (by omega)]; intro e; cases e)]))
                by_cases hgt : i + 1 < k
                · have HP := hid (HP.out.trans (by rw [if_pos hgt]))
                  go_wp2
                  go_quiet (fail)
                  go_wp2
                  go_roundg (k - k)
                  case rel => exact ⟨k, out ++ [c, 43], by omega, by omega, rfl, by rw [← HS2.out], by simp; omega, hid (by rw [HP.out, List.append_assoc]), _, rfl⟩
                  case measure => omega
                · have HP := hid (HP.out.trans (by rw [if_neg hgt]))
                  go_wp2
                  go_quiet (fail)
                  go_wp2
                  go_roundg (k - k)
                  case rel => exact ⟨k, out ++ [c], by omega, by omega, rfl, by rw [← HS1.out], by simp; omega, hid (by rw [HP.out, List.append_assoc]), _, rfl⟩
                  case measure => omega
        · obtain rfl : i = n := by omega
          have HF : Hid (R = bytesB out) := hid (by rw [HR.out, HO.out, List.drop_of_length_le (by omega)]; simp [patL, groupsOf])
          go_wp2
          go_ret
          exact ⟨by show Ending.returned (.string (bytesB out)) = _; rw [HF.out], below_drewN HB.out⟩

end Go.Proofs.YtdncdlcfgljheaaDoor
