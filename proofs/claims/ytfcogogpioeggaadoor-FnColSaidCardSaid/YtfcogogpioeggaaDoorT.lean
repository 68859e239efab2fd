import Derived.Test.YtfcogogpioeggaaDoorB
import Derived.Test.YtfcogogpioeggaaDoorLay
import Derived.Shelf.Strings.SlTrimAscii
namespace Go.Proofs.YtfcogogpioeggaaDoor
open Go.RowKit

def lowBA : ByteArray := ⟨lowers.toArray⟩
theorem lib_Trim (s : ByteArray) (w : World) (hs : s.size ≤ 9223372036854775807) :
    Calls Tryd.prog 95 #[.string s, .string ⟨#[97, 98, 99, 100, 101, 102, 103, 104, 105, 106, 107, 108, 109, 110, 111, 112, 113, 114, 115, 116, 117, 118, 119, 120, 121, 122]⟩] w fun e w' => e = .returned (.string ⟨(Lib.trimS s.data.toList lowers).toArray⟩) ∧ Below w.heap.size w w' :=
  Any.strings_Trim_laid Tryd.lays160 (by kernel_rfl) s lowBA w hs (by decide) (ascii_of_all (by decide))

def wordsB (s : ByteArray) : List ByteArray := Lib.splitB ⟨#[32]⟩ 0 (Lib.countB s ⟨#[32]⟩) s
theorem wordsB_data (s : ByteArray) : (wordsB s).map (·.data.toList) = cutL [] s.data.toList := split_cut s
theorem wordsB_length (s : ByteArray) : (wordsB s).length = Lib.countB s ⟨#[32]⟩ + 1 := Lib.splitB_all ⟨#[32]⟩ (by decide) 0 _ s rfl
theorem wordsB_size (s : ByteArray) (j : Nat) (h : j < (wordsB s).length) : (wordsB s)[j].size ≤ s.size := by
  have hm : (wordsB s)[j].data.toList ∈ cutL [] s.data.toList := by
    rw [← wordsB_data]
    exact List.mem_map.2 ⟨_, List.getElem_mem h, rfl⟩
  have := cut_len _ _ _ hm
  simp only [List.length_nil, Array.length_toList] at this
  have e : ∀ x : ByteArray, x.size = x.data.size := fun _ => rfl
  rw [e, e]; omega
theorem lib_Split (s : ByteArray) (w : World) (hs : s.size ≤ 1048576) (hw : Base w) :
    Calls Tryd.prog 94 #[.string s, .string ⟨#[32]⟩] w fun e w' => e = .returned (.slice (some ⟨w.heap.size, 0, none⟩) (wordsB s).length (wordsB s).length) ∧ w' = w.alloc (.cells ((wordsB s).map Value.string).toArray 9) := by
  obtain ⟨m, hm⟩ := hw
  have h := Any.strings_Split Tryd.lays146 (by kernel_rfl) s ⟨#[32]⟩ m w (by omega) hm (by decide)
  rw [wordsB_length]
  exact h

set_option maxHeartbeats 1000000 in
theorem impl_TxtOk (s : ByteArray) (w : World) (hs : s.size ≤ 1048576) (hw : Base w) :
    Calls Tryd.prog 55 #[.string s] w fun e w' => e = .returned (.bool (txOk s)) ∧ Below w.heap.size w w' := by
  have hS := lib_Split s w hs hw
  have hlen := wordsB_length s
  have hcl := Lib.countB_le ⟨#[32]⟩ (by decide) s.size s (Nat.le_refl _)
  have hwl : (wordsB s).length ≤ 1048577 := by omega
  clear hlen hcl
  have hemp : s.toList.isEmpty = s.data.toList.isEmpty := by rw [ByteArray.toList_eq]
  by_cases he : s.toList.isEmpty = true
  · have hfin : txOk s = true := by unfold txOk txtOk; rw [← hemp, he]; rfl
    rw [hfin]
    clear hS hemp hfin
    go_enter Tryd.func55, Tryd.ntmps55
    go_wp2
    go_ret
    exact ⟨rfl, Below.refl _ _⟩
  · have he' : s.toList.isEmpty = false := by simpa using he
    have HE := hide (hemp.symm.trans he')
    have HF : Hid (txOk s = ((wordsB s).all (fun x => wordOk x.data.toList) && decide (s.size ≤ 30))) := by
      show txOk s = _
      unfold txOk txtOk
      rw [HE.out, Bool.false_or, ← wordsB_data, List.all_map]
      rfl
    clear hemp he
    have hws : ∀ j (h : j < (wordsB s).length), (wordsB s)[j].size ≤ 9223372036854775807 := fun j h => by have := wordsB_size s j h; omega
    go_enter Tryd.func55, Tryd.ntmps55
    go_wp2_with (first | (go_at_call 94; refine hS.mono ?_; rintro e w' ⟨rfl, rfl⟩))
    go_loopg [4, 10] (wordsB s).length (fun gg _ s10 wr => ∃ kk : Nat, kk ≤ (wordsB s).length ∧ (wordsB s).length - kk ≤ gg ∧ s10 = .int .i64 kk ∧ Aside (Below (w.heap.size + 1) (w.alloc (.cells ((wordsB s).map Value.string).toArray 9)) wr) ∧ Aside (∀ j (h : j < (wordsB s).length), j < kk → wordOk (wordsB s)[j].data.toList = true))
    case atStart => exact ⟨0, Nat.zero_le _, by omega, rfl, Below.refl _ _, fun j _ hj => absurd hj (Nat.not_lt_zero _)⟩
    case round =>
      obtain ⟨kk, hkk, hg, rfl, BW, AA⟩ := hrel
      have hBW : Below w.heap.size w wr := (balloc (Below.refl _ w) _).trans (BW.out.mono (by omega))
      by_cases hlt : kk < (wordsB s).length
      · have hcell : wr.cell? ⟨w.heap.size, kk, none⟩ = some (.string (wordsB s)[kk]) := by
          rw [BW.out.cell (by simp)]
          exact cell_new _ _ _ _ _ _ (by simp [hlt])
        have hltz : (kk : Int) < ((wordsB s).length : Int) := by omega
        have hT := lib_Trim (wordsB s)[kk] wr (hws kk hlt)
        have hw1 : (wordsB s)[kk].toList = (wordsB s)[kk].data.toList := ByteArray.toList_eq _
        have hno : wordOk (wordsB s)[kk].data.toList = false → txOk s = false := fun h => by
          rw [HF.out, Bool.and_eq_false_iff]
          left
          rw [List.all_eq_false]
          exact ⟨_, List.getElem_mem hlt, by simp [h]⟩
        have HNO := hide hno
        clear hno hS hws
        by_cases h1 : (wordsB s)[kk].toList.isEmpty = true
        · have h2 := hide (HNO.out (by rw [wordOk, ← hw1, h1]; rfl))
          clear hw1
          go_wp2
          go_ret
          exact ⟨by rw [h2.out]; rfl, hBW⟩
        · have h1' : (wordsB s)[kk].toList.isEmpty = false := by simpa using h1
          by_cases h3 : Lib.trimS (wordsB s)[kk].data.toList lowers = []
          · have h4 : Hid (wordOk (wordsB s)[kk].data.toList = true) := by
              show wordOk _ = true
              rw [wordOk, ← hw1, h1', hw1, (trim_low _).1 h3]; rfl
            rw [h3] at hT
            clear hw1 h3 h1
            go_wp2_with (go_at_call 95; refine hT.mono ?_; rintro e w' ⟨rfl, hb⟩)
            go_roundg ((wordsB s).length - (kk + 1))
            case measure => omega
            case rel =>
              refine ⟨kk + 1, by omega, by omega, by go_num, BW.out.trans (hb.mono (by have := BW.out.size; simpa using this)), (show Aside _ from fun j hj hjk => ?_)⟩
              by_cases e : j = kk
              · subst e; exact h4.out
              · exact AA.out j hj (by omega)
          · have h4 : wordOk (wordsB s)[kk].data.toList = false := by
              rw [wordOk, ← hw1, h1', hw1]
              have : ¬ (wordsB s)[kk].data.toList.all lowB = true := fun h => h3 ((trim_low _).2 h)
              simpa using this
            have h5 := hide (HNO.out h4)
            have h3b : (Lib.trimS (wordsB s)[kk].data.toList lowers).isEmpty = false := by simpa using h3
            clear hw1 h1 h4 h3
            go_wp2_with (go_at_call 95; refine hT.mono ?_; rintro e w' ⟨rfl, hb⟩)
            go_ret
            exact ⟨by rw [h5.out]; rfl, step hBW hb⟩
      · have hltz : ¬ (kk : Int) < ((wordsB s).length : Int) := by omega
        have hfin : txOk s = decide ((s.size : Int) ≤ 30) := by
          rw [HF.out]
          have : (wordsB s).all (fun x => wordOk x.data.toList) = true := by
            rw [List.all_eq_true]
            intro x hx
            obtain ⟨i, hi, rfl⟩ := List.getElem_of_mem hx
            exact AA.out i hi (by omega)
          rw [this, Bool.true_and]
          exact decide_eq_decide.2 (by omega)
        have HFIN := hide hfin
        clear hfin hS hws
        go_wp2
        go_ret
        exact ⟨by rw [HFIN.out]; rfl, hBW⟩
end Go.Proofs.YtfcogogpioeggaaDoor
