import Derived.Test.YtpfagdmmhgcmnaaGreatDoorMixTf
import Derived.Test.YtpfagdmmhgcmnaaGreatDoorMixTa
import Derived.Test.YtpfagdmmhgcmnaaGreatDoorMixO
import Derived.Laws.IdiomStrings
import Derived.Test.YtpfagdmmhgcmnaaGreatDoorMixTd
import Derived.Laws.AppendOwnNone
set_option linter.unusedVariables false
set_option linter.unusedSimpArgs false
namespace Go.Proofs.YtpfagdmmhgcmnaaGreatDoor
open Go.RowKit
def strE (s : ByteArray) : List Value := [.string s]
def strR : Rep ByteArray := flat 1 strE (fun _ => rfl)
def cutA (s : ByteArray) : List ByteArray := (cutL [] s.data.toList).map fun x => ⟨x.toArray⟩
theorem cutA_words (s : ByteArray) : wordsB s = cutA s := by
 unfold cutA
 rw [← wordsB_data, List.map_map]
 conv => lhs; rw [← List.map_id (wordsB s)]
 refine List.map_congr_left fun x _ => ?_
 rfl
def wordsOf (s : ByteArray) : List ByteArray := if s.data.toList.isEmpty then [] else if txOk s then cutA s else []
def maxW (n : Int) (x : ByteArray) : Int := max n x.size
def leastT (s : ByteArray) : Int := (wordsOf s).foldl maxW 0
def wishT (s : ByteArray) : Int := if txOk s then s.size else 0
theorem cutA_size (s : ByteArray) (x : ByteArray) (h : x ∈ cutA s) : x.size ≤ s.size := by
 rw [← cutA_words] at h
 obtain ⟨j, hj, rfl⟩ := List.getElem_of_mem h
 exact wordsB_size s j hj
theorem wordsOf_size (s : ByteArray) (x : ByteArray) (h : x ∈ wordsOf s) : x.size ≤ s.size := by
 unfold wordsOf at h
 split at h
 ·
  cases h
 ·
  split at h
  ·
   exact cutA_size s x h
  ·
   cases h
theorem fold_max (xs : List ByteArray) (B : Nat) (h : ∀ x ∈ xs, x.size ≤ B) : ∀ n : Int, 0 ≤ n → n ≤ B → 0 ≤ xs.foldl maxW n ∧ xs.foldl maxW n ≤ B := by
 induction xs with
 | nil => intro n h0 h1; exact ⟨h0, h1⟩
 | cons x xs ih =>
  intro n h0 h1
  rw [List.foldl_cons]
  have hx := h x (List.mem_cons_self ..)
  exact ih (fun y hy => h y (List.mem_cons_of_mem _ hy)) _ (by unfold maxW; omega) (by unfold maxW; omega)
theorem leastT_in (s : ByteArray) : 0 ≤ leastT s ∧ leastT s ≤ s.size := fold_max _ s.size (wordsOf_size s) 0 (Int.le_refl _) (by omega)
theorem words_len (s : ByteArray) (hs : s.size ≤ 1048576) : (wordsOf s).length ≤ 2000000 := by
 unfold wordsOf
 split
 ·
  simp
 ·
  split
  ·
   rw [← cutA_words]
   have hlen := wordsB_length s
   have hcl := Lib.countB_le ⟨#[32]⟩ (by decide) s.size s (Nat.le_refl _)
   omega
  ·
   simp
theorem rd_str {w W : World} {A : Option Addr} {xs : List ByteArray} (h : Rd strR w A xs) (hb : Below w.heap.size w W) (k : Nat) (hk : k < xs.length) : ∃ b o, A = some ⟨b, o, none⟩ ∧ b < w.heap.size ∧ W.cell? ⟨b, o + k, none⟩ = some (.string xs[k]) := by
 obtain ⟨b, o, c0, e, hlt, hK, hc⟩ := h.at1 rfl hb k hk
 have q : [c0] = [.string xs[k]] := hK
 simp only [List.cons.injEq, and_true] at q
 subst q
 exact ⟨b, o, e, hlt, hc⟩
theorem rd_new (w : World) (xs : List ByteArray) (hl : xs.length ≤ 2000000) : Rd strR (w.alloc (.cells (xs.map Value.string).toArray 9)) (some ⟨w.heap.size, 0, none⟩) xs :=
 ⟨by omega, fun _ => ⟨w.heap.size, 0, rfl, by simp, fun j hj => ⟨[.string xs[j]], rfl, fun i u hu => by
  have : i = 0 := by have := (List.getElem?_eq_some_iff.1 hu).1; simp at this; omega
  subst this
  simp at hu; subst hu
  have e0 : (0 : Nat) + j * strR.sz + 0 = j := by show 0 + j * 1 + 0 = j; omega
  rw [e0]
  exact cell_new _ _ _ _ _ _ (by simp [hj])⟩⟩⟩
set_option maxHeartbeats 2000000 in
theorem impl_TxtWords (s : ByteArray) (w : World) (hs : s.size ≤ 1048576) (hw : Base w) : Calls Tryz.prog 67 #[.string s] w (fun e w' => ∃ A c, e = .returned (.slice A (wordsOf s).length c) ∧ Rd strR w' A (wordsOf s) ∧ Below w.heap.size w w') := by
 have hemp : s.toList.isEmpty = s.data.toList.isEmpty := by rw [ByteArray.toList_eq]
 have hwl := words_len s hs
 by_cases he : s.toList.isEmpty = true
 ·
  have hfin : wordsOf s = [] := by unfold wordsOf; rw [if_pos (by rw [← hemp]; exact he)]
  rw [hfin]
  clear hemp hfin hwl
  go_enter Tryz.func67, Tryz.ntmps67
  go_wp2_with fail
  go_ret
  exact ⟨none, 0, rfl, Rd.nil _ _ _, brefl _⟩
 ·
  have he' : s.toList.isEmpty = false := by simpa using he
  have hT := impl_TxtOk s w hs hw
  have hne : ¬ s.data.toList.isEmpty = true := by rw [← hemp]; exact he
  cases hok : txOk s with
  | false =>
   rw [hok] at hT
   have hfin : wordsOf s = [] := by unfold wordsOf; rw [if_neg hne, hok]; rfl
   rw [hfin]
   clear hemp hfin hwl hne he
   go_enter Tryz.func67, Tryz.ntmps67
   go_wp2_with fail
   refine hT.mono ?_
   rintro _ w' ⟨rfl, hb⟩
   go_wp2_with fail
   go_ret
   exact ⟨none, 0, rfl, Rd.nil _ _ _, hb⟩
  | true =>
   rw [hok] at hT
   have hfin : wordsOf s = wordsB s := by unfold wordsOf; rw [if_neg hne, hok, cutA_words]; rfl
   rw [hfin] at hwl ⊢
   have hS := fun (W : World) (hb : Below w.heap.size w W) => lib_Split s W hs (hw.below hb)
   clear hemp hfin hne he
   go_enter Tryz.func67, Tryz.ntmps67
   go_wp2_with fail
   refine hT.mono ?_
   rintro _ w' ⟨rfl, hb⟩
   have hS2 := hS w' hb
   clear hS hT
   go_wp2_with fail
   refine hS2.mono ?_
   rintro _ w2 ⟨rfl, rfl⟩
   go_wp2_with fail
   go_ret
   exact ⟨_, _, rfl, rd_new w' _ hwl, balloc hb _⟩
set_option maxHeartbeats 2000000 in
theorem impl_TxtLeast (s : ByteArray) (w : World) (hs : s.size ≤ 1048576) (hw : Base w) : Calls Tryz.prog 23 #[.string s] w fun e w' => e = .returned (.int .i64 (leastT s)) ∧ Below w.heap.size w w' := by
 have hW := impl_TxtWords s w hs hw
 have hlen := words_len s hs
 have hsz := wordsOf_size s
 unfold leastT
 generalize wordsOf s = ws at hW hlen hsz ⊢
 have HZ := hide hsz
 clear hsz hw
 go_enter Tryz.func23, Tryz.ntmps23
 go_wp2_with fail
 refine hW.mono ?_
 rintro _ w1 ⟨A, c, rfl, hr, hb⟩
 have HR := hide hr
 have HB := hide hb
 clear hr hb hW
 have hmax := max_int
 go_wp2_with fail
 go_loopg [3, 5, 9] ws.length (fun gg s3 s5 s9 wr => ∃ i : Nat, s9 = .int .i64 i ∧ i ≤ ws.length ∧ ws.length - i ≤ gg ∧ s3 = .int .i64 ((ws.take i).foldl maxW 0) ∧ wr = w1)
 case atStart => exact ⟨0, rfl, Nat.zero_le _, by omega, rfl, rfl⟩
 case round =>
  obtain ⟨i, rfl, hin, hgg, rfl, rfl⟩ := hrel
  by_cases hlt : i < ws.length
  ·
   have hltz : (i : Int) < (ws.length : Int) := by omega
   obtain ⟨b, o, rfl, _, c1⟩ := rd_str HR.out (brefl _) i hlt
   have hst : (ws.take (i + 1)).foldl maxW 0 = maxW ((ws.take i).foldl maxW 0) ws[i] := by rw [List.take_succ_eq_append_getElem hlt, List.foldl_append]; rfl
   unfold maxW at hst
   have HST := hide hst
   clear hst
   go_wp2_with fail
   go_roundg (ws.length - (i + 1))
   case measure => omega
   case rel => exact ⟨i + 1, by go_num, by omega, by omega, by rw [show maxW = (fun (n : Int) (x : ByteArray) => max n (x.size : Int)) from rfl, HST.out], rfl⟩
  ·
   have hltz : ¬ (i : Int) < (ws.length : Int) := by omega
   have hst := hide (show (ws.take i).foldl maxW 0 = ws.foldl maxW 0 by rw [List.take_of_length_le (by omega)])
   go_wp2_with fail
   go_ret
   exact ⟨by rw [hst.out]; rfl, HB.out⟩
set_option maxHeartbeats 2000000 in
theorem impl_TxtWish (s : ByteArray) (w : World) (hs : s.size ≤ 1048576) (hw : Base w) : Calls Tryz.prog 29 #[.string s] w fun e w' => e = .returned (.int .i64 (wishT s)) ∧ Below w.heap.size w w' := by
 have hT := impl_TxtOk s w hs hw
 unfold wishT
 cases hok : txOk s with
 | false =>
  rw [hok] at hT
  go_enter Tryz.func29, Tryz.ntmps29
  go_wp2_with fail
  refine hT.mono ?_
  rintro _ w1 ⟨rfl, hb⟩
  go_wp2_with fail
  go_ret
  exact ⟨rfl, hb⟩
 | true =>
  rw [hok] at hT
  go_enter Tryz.func29, Tryz.ntmps29
  go_wp2_with fail
  refine hT.mono ?_
  rintro _ w1 ⟨rfl, hb⟩
  go_wp2_with fail
  go_ret
  exact ⟨rfl, hb⟩
set_option maxHeartbeats 2000000 in
theorem spec_TxtWish (s : ByteArray) (w : World) (hs : s.size ≤ 1048576) : Calls Tryz.prog 140 #[.string s] w fun e w' => e = .returned (.int .i64 (wishT s)) ∧ w' = w := by
 have hT := spec_TxtOk s w hs
 unfold wishT
 cases hok : txOk s with
 | false =>
  rw [hok] at hT
  go_enter Tryz.func140, Tryz.ntmps140
  go_wp2_with fail
  refine hT.mono ?_
  rintro _ w1 ⟨rfl, hb⟩
  obtain rfl := hb.symm
  go_wp2_with fail
  go_ret
  exact ⟨rfl, rfl⟩
 | true =>
  rw [hok] at hT
  go_enter Tryz.func140, Tryz.ntmps140
  go_wp2_with fail
  refine hT.mono ?_
  rintro _ w1 ⟨rfl, hb⟩
  obtain rfl := hb.symm
  go_wp2_with fail
  go_ret
  exact ⟨rfl, rfl⟩
def SOwn (w : World) (base : Nat) (v : Value) (xs : List ByteArray) : Prop := w.ownsRow base 9 1 v xs.length (xs.flatMap strE)
theorem und_strs : Tryz.prog.underlying 68 = some (.slice 9) := by kernel_rfl
theorem info_strs : (Tryz.prog.info? 9).map (fun i => (i.zero, i.size, i.bytes)) = some (some (.string ⟨#[]⟩), 1, 16) := by kernel_rfl
theorem wpList_append_str {w : World} {ops : Array Oper} {rest : List Oper} {o : Oper} {a : Act} {Q : Exit → Act → World → Prop} (hgd : o.guard = none) (s x : Operand)
  (ho : o.op = .call { callee := .builtin .append, args := #[s, x], argTypes := #[68, 68] }) (base : Nat) (v : Value) (xs : List ByteArray) (hs : a.eval s = v) (hown : SOwn w base v xs)
  (ad : Addr) (c : Nat) (y : ByteArray) (hx : a.eval x = .slice (some ad) 1 c) (hc : w.cell? ad = some (.string y)) (hn : xs.length ≤ 3000000) (hbase : base ≤ w.heap.size)
  (h : ∀ v' w', Hid (SOwn w' base v' (xs ++ [y])) → Hid (w.grownBy w' v.ownBlock) → Hid (∀ b, v'.ownBlock = some b → v.ownBlock = some b ∨ w.heap.size ≤ b) → wpList Tryz.prog ops Q rest (a.put o.dst v') w') : wpList Tryz.prog ops Q (o :: rest) a w := by
 obtain ⟨i0, hi, hz0, hz1, hz2⟩ := info_parts info_strs
 refine wpList_append_at hgd s x 68 ho base 9 i0 _ 1 16 und_strs hi hz0 hz1 hz2 rfl (by decide) v xs.length (xs.flatMap strE) hs hown ad 1 c [.string y] hx rfl (fun j u hj => ?_) (fun u hu => by rw [List.mem_singleton.1 hu]; rfl) (by unfold maxLen; omega) (by omega) hbase fun v' w' h1 h2 h3 => h v' w' (show SOwn _ _ _ _ from ?_) h2 h3
 ·
  have : j = 0 := by have := (List.getElem?_eq_some_iff.1 hj).1; simp at this; omega
  subst this; simp at hj; subst hj
  obtain ⟨b, o, sp⟩ := ad
  simpa [Addr.add] using hc
 ·
  unfold SOwn
  rw [List.length_append, List.flatMap_append]
  exact h1
theorem SOwn.rd {w : World} {base : Nat} {v : Value} {xs : List ByteArray} (h : SOwn w base v xs) : IsSl strR w v xs := own_rd h
theorem SOwn.lt {w : World} {base : Nat} {v : Value} {xs : List ByteArray} (h : SOwn w base v xs) {b : Nat} (hb : v.ownBlock = some b) : base ≤ b ∧ b < w.heap.size := own_lt h hb
def toB (l : List UInt8) : ByteArray := ⟨l.toArray⟩
theorem byte_text (W : World) (ch : UInt8) : (convert 22 9 (.slice (some ⟨W.heap.size, 0, none⟩) 1 1)).run Tryz.prog (W.alloc (.cells #[.int .u8 ch.toNat] 5)) = .ok (.string ⟨#[ch]⟩) (W.alloc (.cells #[.int .u8 ch.toNat] 5)) := by
 refine run_convert_bytes_back (P := Tryz.prog) _ 22 9 5 ⟨W.heap.size, 0, none⟩ 1 [ch] (by kernel_rfl) (by kernel_rfl) (by kernel_rfl) ?_
 intro j hj
 have : j = 0 := by simpa using hj
 subst this
 rw [Addr.add_lit]
 exact cell_new _ _ _ _ _ _ (by simp)
theorem toB_snoc (l : List UInt8) (c : UInt8) : toB l ++ ⟨#[c]⟩ = toB (l ++ [c]) := by
 apply ByteArray.ext
 simp [toB]
theorem cut_count (s : ByteArray) : (cutA s).length ≤ s.size + 1 := by
 rw [← cutA_words]
 have hlen := wordsB_length s
 have hcl := Lib.countB_le ⟨#[32]⟩ (by decide) s.size s (Nat.le_refl _)
 omega
set_option maxRecDepth 100000 in
set_option maxHeartbeats 4000000 in
theorem spec_l1Cut (s : ByteArray) (w : World) (hs : s.size ≤ 1048576) : Calls Tryz.prog 177 #[.string s] w fun e w' => ∃ A c, e = .returned (.slice A (cutA s).length c) ∧ Rd strR w' A (cutA s) ∧ Below w.heap.size w w' := by
 have hcc := cut_count s
 go_enter Tryz.func177, Tryz.ntmps177
 go_wp2_with fail
 have h0 : SOwn (w.alloc (.cells #[] 9)) w.heap.size (.slice (some ⟨w.heap.size, 0, none⟩) 0 0) [] := World.ownsRow_made w #[] 0 (Nat.le_refl _) (Nat.zero_le _) (by simp)
 have H0 := hide h0
 clear h0
 go_loopg [3, 4, 5] s.size (fun gg s3 s4 s5 wr => ∃ (i : Nat) (xs : List ByteArray) (word : List UInt8), s5 = .int .i64 i ∧ i ≤ s.size ∧ s.size - i ≤ gg ∧ s4 = .string (toB word) ∧ word.length ≤ i ∧ Aside (SOwn wr w.heap.size s3 xs) ∧ Aside (Below w.heap.size w wr) ∧ Aside (xs ++ (cutL word (s.data.toList.drop i)).map toB = cutA s))
 case atStart => exact ⟨0, [], [], rfl, Nat.zero_le _, by omega, rfl, Nat.zero_le _, H0.out, balloc (brefl _) _, (show Aside _ from rfl)⟩
 case round =>
  obtain ⟨i, xs, word, rfl, hin, hgg, rfl, hwl, HO, HB, HX⟩ := hrel
  clear H0
  by_cases hlt : i < s.size
  ·
   have hltz : (i : Int) < (s.size : Int) := by omega
   have hdl : i < s.data.toList.length := by simpa using hlt
   have hx := HX.out
   rw [List.drop_eq_getElem_cons hdl, cutL] at hx
   have hget : s.data.toList[i] = s[i] := rfl
   rw [hget] at hx
   have eq32 : ∀ c : UInt8, ((c.toNat : Int) == 32) = decide (c = 32) := fun c => by
    rw [Bool.eq_iff_iff]; simp [← UInt8.toNat_inj]; omega
   by_cases hA : s[i] = 32
   ·
    rw [if_pos hA] at hx
    have hA' : ((s[i].toNat : Int) == 32) = true := by rw [eq32]; simpa using hA
    have HX2 : Hid ((xs ++ [toB word]) ++ (cutL [] (s.data.toList.drop (i + 1))).map toB = cutA s) := by show _ = _; rw [← hx]; simp
    have hxl : xs.length ≤ 3000000 := by have := congrArg List.length hx; simp at this; omega
    have HXL := hide hxl
    clear hx hA hget hxl eq32
    go_wp2_with (at_builtin; refine wpList_append_str rfl (.tmp 17) (.tmp 19) rfl w.heap.size _ xs rfl (own_below HO.out (balloc (brefl _) _)) ⟨wr.heap.size, 0, none⟩ 1 (toB word) rfl (cell_new _ _ _ _ 0 _ rfl) HXL.out (by have := HB.out.size; simp; omega) ?_)
    intro v' w4 H1 H2 H3
    have HB2 : Hid (Below w.heap.size w w4) := (balloc HB.out (.cells #[.string (toB word)] 9)).trans (grown_below H2.out (by have := HB.out.size; simp; omega) (fun b hb => (HO.out.lt hb).1))
    clear H2 H3 HB HO HX hA'
    go_wp2_with fail
    go_roundg (s.size - (i + 1))
    case measure => omega
    case rel => exact ⟨i + 1, _, [], by go_num, by omega, by omega, rfl, Nat.zero_le _, H1.out, HB2.out, HX2.out⟩
   ·
    rw [if_neg hA] at hx
    have hA' : ((s[i].toNat : Int) == 32) = false := by rw [eq32]; simpa using hA
    have HX2 := hide hx
    have hcv := byte_text
    have hsz : (toB word).size ≤ 1048576 := by show word.toArray.size ≤ _; simp; omega
    have hsz1 : ∀ c : UInt8, (ByteArray.mk #[c]).size = 1 := fun c => rfl
    have hsz2 : ∀ c : UInt8, (toB word).size + (ByteArray.mk #[c]).size ≤ 9223372036854775807 := fun c => by rw [hsz1]; omega
    clear hx hA hget eq32
    go_wp2_with fail
    go_roundg (s.size - (i + 1))
    case measure => omega
    case rel => exact ⟨i + 1, xs, word ++ [s[i]], by go_num, by omega, by omega, by rw [← toB_snoc], by simp; omega, own_below HO.out (balloc (brefl _) _), balloc HB.out _, HX2.out⟩
  ·
   have hltz : ¬ (i : Int) < (s.size : Int) := by omega
   have hx := HX.out
   rw [List.drop_eq_nil_of_le (by simp; omega), cutL] at hx
   have hxl : xs.length ≤ 3000000 := by have := congrArg List.length hx; simp at this; omega
   have HXL := hide hxl
   have HX2 : Hid (xs ++ [toB word] = cutA s) := hx
   clear hx hxl HX
   go_wp2_with (at_builtin; refine wpList_append_str rfl (.tmp 28) (.tmp 30) rfl w.heap.size _ xs rfl (own_below HO.out (balloc (brefl _) _)) ⟨wr.heap.size, 0, none⟩ 1 (toB word) rfl (cell_new _ _ _ _ 0 _ rfl) HXL.out (by have := HB.out.size; simp; omega) ?_)
   intro v' w4 H1 H2 H3
   have HB2 : Hid (Below w.heap.size w w4) := (balloc HB.out (.cells #[.string (toB word)] 9)).trans (grown_below H2.out (by have := HB.out.size; simp; omega) (fun b hb => (HO.out.lt hb).1))
   have h1 := H1.out
   rw [HX2.out] at h1
   obtain ⟨A, c, rfl, _, hr⟩ := h1.rd
   have HR := hide hr
   clear h1 hr H1 H2 H3
   go_wp2_with fail
   go_ret
   exact ⟨A, c, rfl, HR.out, HB2.out⟩
set_option maxHeartbeats 2000000 in
theorem spec_TxtWords (s : ByteArray) (w : World) (hs : s.size ≤ 1048576) : Calls Tryz.prog 164 #[.string s] w (fun e w' => ∃ A c, e = .returned (.slice A (wordsOf s).length c) ∧ Rd strR w' A (wordsOf s) ∧ Below w.heap.size w w') := by
 have hemp : s.toList.isEmpty = s.data.toList.isEmpty := by rw [ByteArray.toList_eq]
 by_cases he : s.toList.isEmpty = true
 ·
  have hfin : wordsOf s = [] := by unfold wordsOf; rw [if_pos (by rw [← hemp]; exact he)]
  rw [hfin]
  clear hemp hfin
  go_enter Tryz.func164, Tryz.ntmps164
  go_wp2_with fail
  go_ret
  exact ⟨_, _, rfl, Rd.nil _ _ _, balloc (brefl _) _⟩
 ·
  have he' : s.toList.isEmpty = false := by simpa using he
  have hT := spec_TxtOk s w hs
  have hne : ¬ s.data.toList.isEmpty = true := by rw [← hemp]; exact he
  cases hok : txOk s with
  | false =>
   rw [hok] at hT
   have hfin : wordsOf s = [] := by unfold wordsOf; rw [if_neg hne, hok]; rfl
   rw [hfin]
   clear hemp hfin hne he
   go_enter Tryz.func164, Tryz.ntmps164
   go_wp2_with fail
   refine hT.mono ?_
   rintro _ w' ⟨rfl, hb⟩
   obtain rfl := hb.symm
   go_wp2_with fail
   go_ret
   exact ⟨_, _, rfl, Rd.nil _ _ _, balloc (brefl _) _⟩
  | true =>
   rw [hok] at hT
   have hfin : wordsOf s = cutA s := by unfold wordsOf; rw [if_neg hne, hok]; rfl
   rw [hfin]
   have hS := spec_l1Cut s w hs
   clear hemp hfin hne he
   go_enter Tryz.func164, Tryz.ntmps164
   go_wp2_with fail
   refine hT.mono ?_
   rintro _ w' ⟨rfl, hb⟩
   obtain rfl := hb.symm
   clear hT
   go_wp2_with fail
   refine hS.mono ?_
   rintro _ w2 ⟨A, c, rfl, hr, hb2⟩
   go_wp2_with fail
   go_ret
   exact ⟨_, _, rfl, hr, hb2⟩
set_option maxHeartbeats 2000000 in
theorem spec_TxtLeast (s : ByteArray) (w : World) (hs : s.size ≤ 1048576) : Calls Tryz.prog 142 #[.string s] w fun e w' => e = .returned (.int .i64 (leastT s)) ∧ Below w.heap.size w w' := by
 have hW := spec_TxtWords s w hs
 have hlen := words_len s hs
 unfold leastT
 generalize wordsOf s = ws at hW hlen ⊢
 go_enter Tryz.func142, Tryz.ntmps142
 go_wp2_with fail
 refine hW.mono ?_
 rintro _ w1 ⟨A, c, rfl, hr, hb⟩
 have HR := hide hr
 have HB := hide hb
 clear hr hb hW
 have hmax := spec_max
 go_wp2_with fail
 go_loopg [4, 5] ws.length (fun gg s4 s5 wr => ∃ i : Nat, s5 = .int .i64 i ∧ i ≤ ws.length ∧ ws.length - i ≤ gg ∧ s4 = .int .i64 ((ws.take i).foldl maxW 0) ∧ wr = w1)
 case atStart => exact ⟨0, rfl, Nat.zero_le _, by omega, rfl, rfl⟩
 case round =>
  obtain ⟨i, rfl, hin, hgg, rfl, rfl⟩ := hrel
  by_cases hlt : i < ws.length
  ·
   have hltz : (i : Int) < (ws.length : Int) := by omega
   obtain ⟨b, o, rfl, _, c1⟩ := rd_str HR.out (brefl _) i hlt
   have hst : (ws.take (i + 1)).foldl maxW 0 = maxW ((ws.take i).foldl maxW 0) ws[i] := by rw [List.take_succ_eq_append_getElem hlt, List.foldl_append]; rfl
   unfold maxW at hst
   have HST := hide hst
   clear hst
   go_wp2_with fail
   refine (hmax _ _ _).mono ?_
   rintro _ w2 ⟨rfl, hw2⟩
   obtain rfl := hw2.symm
   go_wp2_with fail
   go_roundg (ws.length - (i + 1))
   case measure => omega
   case rel => exact ⟨i + 1, by go_num, by omega, by omega, by rw [show maxW = (fun (n : Int) (x : ByteArray) => max n (x.size : Int)) from rfl, HST.out], rfl⟩
  ·
   have hltz : ¬ (i : Int) < (ws.length : Int) := by omega
   have hst := hide (show (ws.take i).foldl maxW 0 = ws.foldl maxW 0 by rw [List.take_of_length_le (by omega)])
   go_wp2_with fail
   go_ret
   exact ⟨by rw [hst.out]; rfl, HB.out⟩
end Go.Proofs.YtpfagdmmhgcmnaaGreatDoor

namespace Go.Proofs.YtpfagdmmhgcmnaaGreatDoor
open Go.RowKit
theorem RowsOwn.snoc {w : World} {lo hi hi' : Nat} {vs : List Value} {rows : List TRow} {v : Value} {r : TRow} (h : RowsOwn w lo hi vs rows) (hv : w.ownsRow hi 52 11 v r.cs.length (r.cs.flatMap cellE)) (h1 : lo ≤ hi) (h2 : hi ≤ hi') (h3 : w.heap.size ≤ hi') :
  RowsOwn w lo hi' (vs ++ [v]) (rows ++ [r]) := by
 have hO := (Own.of hv h3).mono h1 (Nat.le_refl _)
 refine ⟨by simp [h.1], fun j a b => ?_, ?_⟩
 ·
  rcases Nat.lt_or_ge j vs.length with hj | hj
  ·
   have hj' : j < rows.length := by rw [← h.1]; exact hj
   rw [List.getElem_append_left hj, List.getElem_append_left hj']
   exact (h.2.1 j hj hj').mono (Nat.le_refl _) h2
  ·
   have e : j = vs.length := by simp at a; omega
   have e' : j = rows.length := by rw [← h.1]; exact e
   have g1 : (vs ++ [v])[j] = v := by rw [List.getElem_append_right (by omega)]; simp
   have g2 : (rows ++ [r])[j] = r := by rw [List.getElem_append_right (by omega)]; simp
   rw [g1, g2]; exact hO
 ·
  rw [List.pairwise_append]
  refine ⟨h.2.2, List.pairwise_singleton _ _, fun a ha b hb => ?_⟩
  rw [List.mem_singleton.1 hb]
  obtain ⟨i, hi1, rfl⟩ := List.getElem_of_mem ha
  intro g n c g' n' c' e1 e2 hn hn' e
  subst e
  have hA := h.2.1 i hi1 (by rw [← h.1]; exact hi1)
  rcases hA with ⟨h0, _, A, c0, e3⟩ | ⟨_, g1, c1, e3, b1, b2, _⟩
  ·
   rw [e3] at e1; injection e1 with _ e1 _; omega
  ·
   rw [e3] at e1; injection e1 with e1 _ _; injection e1 with e1; injection e1 with e1; subst e1
   have := own_lt hv (b := g1) (by rw [e2]; rfl)
   omega
theorem news2 {w : World} {b : Nat} {u0 u1 : Value} (h0 : w.cell? ⟨b, 0, none⟩ = some u0) (h1 : w.cell? ⟨b, 1, none⟩ = some u1) : ∀ j u, [u0, u1][j]? = some u → w.cell? ((⟨b, 0, none⟩ : Addr).add j) = some u := by
 intro j u hj
 have hadd : ∀ k, (⟨b, 0, none⟩ : Addr).add k = ⟨b, k, none⟩ := fun k => by rw [Addr.add_lit, Nat.zero_add]
 rw [hadd]
 match j, hj with
 | 0, hj => simp at hj; subst hj; exact h0
 | 1, hj => simp at hj; subst hj; exact h1
theorem row_one (A : Option Addr) (n c : Nat) (b : Bool) : ∀ u ∈ [Value.slice A n c, .bool b], u.oneCell' = true := by
 intro u hu
 simp only [List.mem_cons, List.not_mem_nil, or_false] at hu
 rcases hu with rfl | rfl <;> rfl
theorem RowsAll.mono {w : World} {lo hi lo' hi' : Nat} {v : Value} {vs : List Value} {rows : List TRow} (h : RowsAll w lo hi v vs rows) (hl : lo' ≤ lo) (hh : hi ≤ hi') : RowsAll w lo' hi' v vs rows := ⟨h.1.mono hl hh, h.2.mono hl hh⟩
theorem infoR : (Tryz.prog.info? 48).map (fun i => (i.zero, i.size, i.bytes)) = some (some (.agg #[.slice none 0 0, .bool false]), 2, 32) := by kernel_rfl
theorem undR : Tryz.prog.underlying 24 = some (.slice 48) := by kernel_rfl
end Go.Proofs.YtpfagdmmhgcmnaaGreatDoor

namespace Go.Proofs.YtpfagdmmhgcmnaaGreatDoor
open Go.RowKit
section
variable {P : Program} {ops : Array Oper} {Q : Exit → Act → World → Prop} {md : Region.Mode} {S : World → Prop} {L : Nat}
def wpAnyT (P : Program) (md : Region.Mode) (ops : Array Oper) (Q : Exit → Act → World → Prop) (S : World → Prop) (L : Nat) : Nat → Array Bool → Act → World → Prop
 | 0, listed, a, w => Region.ready md ops listed = [] ∧ Q .normal a w
 | fuel + 1, listed, a, w =>
  (Region.ready md ops listed = [] → Q .normal a w) ∧
  ∀ i ∈ Region.ready md ops listed, wpOp P ops Q i (fun a' w' => (i ≠ L → S w') ∧ wpAnyT P md ops Q S L fuel (listed.setIfInBounds i true) a' w') a w
theorem wpAny_of_T : ∀ (fuel : Nat) (listed : Array Bool) (a : Act) (w : World), wpAnyT P md ops Q S L fuel listed a w → wpAny P md ops Q fuel listed a w
 | 0, _, _, _, h => h
 | fuel + 1, _, _, _, h => ⟨h.1, fun i hi => wpOp_mono (fun a' w' h' => wpAny_of_T fuel _ a' w' h'.2) (h.2 i hi)⟩
def waitsOn (md : Region.Mode) (ops : Array Oper) (L i : Nat) : Bool := match ops[L]? with
 | some o => o.after.any fun e => Region.binds md e && e.on == i
 | none => false
theorem waitsOn_spec {i : Nat} (h : waitsOn md ops L i = true) : ∃ oL, ops[L]? = some oL ∧ ∃ e ∈ oL.after, Region.binds md e = true ∧ e.on = i := by
 unfold waitsOn at h
 split at h
 ·
  rename_i o ho
  rw [Array.any_eq_true'] at h
  obtain ⟨e, he, h⟩ := h
  simp only [Bool.and_eq_true, beq_iff_eq] at h
  exact ⟨o, ho, e, he, h.1, h.2⟩
 ·
  cases h
def chainW (md : Region.Mode) (ops : Array Oper) : Nat → List Nat → Bool
 | _, [] => true
 | p, q :: r => waitsOn md ops q p && chainW md ops q r
theorem not_ready {listed : Array Bool} {j p : Nat} (hj : j ∈ Region.ready md ops listed) (hw : waitsOn md ops j p = true) (hp : listed.getD p true = false) : False := by
 obtain ⟨oj, hoj, e, he, hb, heq⟩ := waitsOn_spec hw
 obtain ⟨_, oj', hoj', hall⟩ := mem_ready.1 hj
 rw [hoj] at hoj'
 injection hoj' with e'
 subst e'
 have h1 := hall e he hb
 rw [heq] at h1
 rcases Nat.lt_or_ge p listed.size with h' | h'
 ·
  simp [h'] at hp h1; rw [hp] at h1; cases h1
 ·
  simp [Array.getElem?_eq_none h'] at h1
theorem not_in_chain {listed : Array Bool} {j : Nat} (hj : j ∈ Region.ready md ops listed) : ∀ (p : Nat) (r : List Nat), chainW md ops p r = true → listed.getD p true = false → (∀ q ∈ r, listed.getD q true = false) → j ∉ r
 | _, [], _, _, _ => by simp
 | p, q :: r, h, hp, hr => by
  unfold chainW at h
  rw [Bool.and_eq_true] at h
  intro hm
  rcases List.mem_cons.1 hm with rfl | hm
  ·
   exact not_ready hj h.1 hp
  ·
   exact not_in_chain hj q r h.2 (hr q (List.mem_cons_self ..)) (fun x hx => hr x (List.mem_cons_of_mem _ hx)) hm
theorem wpAnyT_first {i : Nat} {oi : Oper} {v : Value} {path : List Nat} (hi : ops[i]? = some oi) (hch : chainW md ops i path = true) (hLp : L ∈ path) (hsel : ∀ (j : Nat) (o : Oper) cs b, ops[j]? = some o → o.op ≠ .select cs b)
  (hQ : ∀ c a w, Q (.panic c) (a.put oi.dst v) w → Q (.panic c) a w) :
  ∀ (fuel : Nat) (listed : Array Bool) (a : Act) (w : World),
   (∀ j oj, ops[j]? = some oj → j ≠ i → listed.getD j true = false → (∀ e ∈ oj.after, Region.binds md e = true → e.on ≠ i) → oi.apart ops oj = true) →
   i ∈ Region.ready md ops listed → (∀ q ∈ path, listed.getD q true = false) → YieldsIf P ops S oi v a → S w →
   wpAnyT P md ops Q S L fuel (listed.setIfInBounds i true) (a.put oi.dst v) w → wpAnyT P md ops Q S L (fuel + 1) listed a w := by
 intro fuel
 induction fuel with
 | zero =>
  intro listed a w _ hr _ hy hS H
  refine ⟨fun h => (by rw [h] at hr; cases hr), fun j hj => ?_⟩
  by_cases hji : j = i
  ·
   subst hji; exact hy.wpOp hi hS ⟨fun _ => hS, H⟩
  ·
   have := ready_mono hj hji
   rw [H.1] at this
   cases this
 | succ fuel ih =>
  intro listed a w hfree hr hpa hy hS H
  refine ⟨fun h => (by rw [h] at hr; cases hr), fun j hj => ?_⟩
  by_cases hji : j = i
  ·
   subst hji; exact hy.wpOp hi hS ⟨fun _ => hS, H⟩
  ·
   have h1 := H.2 j (ready_mono hj hji)
   obtain ⟨hjun, oj, hoj, hall⟩ := mem_ready.1 hj
   have hnot : ∀ e ∈ oj.after, Region.binds md e = true → e.on ≠ i := fun e he hb heq => by
    have h1 := hall e he hb
    have h0 := (mem_ready.1 hr).1
    rw [heq] at h1
    rcases Nat.lt_or_ge i listed.size with h' | h'
    ·
     simp [h'] at h0 h1; rw [h0] at h1; cases h1
    ·
     simp [Array.getElem?_eq_none h'] at h1
   have hjp : j ∉ path := not_in_chain hj i path hch (mem_ready.1 hr).1 hpa
   have hjL : j ≠ L := fun e => hjp (e ▸ hLp)
   have hpa' : ∀ q ∈ path, (listed.setIfInBounds j true).getD q true = false := fun q hq => by
    have hne : j ≠ q := by rintro rfl; exact hjp hq
    rw [getD_set_ne true hne]; exact hpa q hq
   have h2 := wpOp_putIf hoj (hfree j oj hoj hji hjun hnot) (fun cs b => hsel i oi cs b hi) (fun cs b => hsel j oj cs b hoj) hQ hy h1
   have hfree' : ∀ k ok, ops[k]? = some ok → k ≠ i → (listed.setIfInBounds j true).getD k true = false →
     (∀ e ∈ ok.after, Region.binds md e = true → e.on ≠ i) → oi.apart ops ok = true := fun k ok hk hki hun hno => by
    refine hfree k ok hk hki ?_ hno
    by_cases hjk : j = k
    ·
     subst hjk; exact hjun
    ·
     rw [getD_set_ne true hjk] at hun; exact hun
   refine wpOp_mono (fun a' w' h3 => ⟨fun _ => h3.2.1 hjL, ih (listed.setIfInBounds j true) a' w' hfree' (ready_mono hr (Ne.symm hji)) hpa' h3.1 (h3.2.1 hjL) ?_⟩) h2
   rw [Array.setIfInBounds_comm _ _ hji]
   exact h3.2.2
theorem wpAnyT_take {i : Nat} {oi : Oper} {v : Value} {fuel : Nat} {listed : Array Bool} {a : Act} {w : World} (path : List Nat) (hi : ops[i]? = some oi)
  (hs : Region.noSelect ops = true) (hf : Region.free md ops listed i = true) (hr : (Region.ready md ops listed).contains i = true) (hch : chainW md ops i path = true) (hLp : path.contains L = true) (hpa : (path.all fun q => !listed.getD q true) = true)
  (hQ : ∀ c a w, Q (.panic c) (a.put oi.dst v) w → Q (.panic c) a w) (hy : YieldsIf P ops S oi v a) (hS : S w)
  (h : wpAnyT P md ops Q S L fuel (listed.setIfInBounds i true) (a.put oi.dst v) w) : wpAnyT P md ops Q S L (fuel + 1) listed a w :=
 wpAnyT_first (path := path) hi hch (by simpa using hLp) (Region.noSelect_spec hs) hQ fuel listed a w (Region.free_spec hi hf) (by simpa using hr) (fun q hq => by have := List.all_eq_true.1 hpa q hq; simpa using this) hy hS h
theorem wpAnyT_done {listed : Array Bool} {a : Act} {w : World} (hr : Region.ready md ops listed = []) (h : Q .normal a w) :
  ∀ fuel, wpAnyT P md ops Q S L fuel listed a w
 | 0 => ⟨hr, h⟩
 | _ + 1 => ⟨fun _ => h, by rw [hr]; simp⟩
theorem wpAnyT_one {i : Nat} {o : Oper} {fuel : Nat} {listed : Array Bool} {a : Act} {w : World} (hr : Region.ready md ops listed = [i]) (ho : ops[i]? = some o)
  (h : ∀ K' : Act → World → Prop, Shut (∀ a w, (i ≠ L → S w) → wpAnyT P md ops Q S L fuel (listed.setIfInBounds i true) a w → K' a w) → if Region.wanted o (yielded ops a.tmps) = true then Oper.wp P o a w K' Q else K' (a.put o.dst undef) w) :
  wpAnyT P md ops Q S L (fuel + 1) listed a w := by
 refine And.intro (fun h0 => absurd (hr.symm.trans h0) (List.cons_ne_nil _ _)) ?_
 intro j hj
 rw [hr, List.mem_singleton] at hj
 subst hj
 exact wpOp_step ho (fun K' hK => h K' (fun a w h1 h2 => hK a w ⟨h1, h2⟩))
theorem wp_region_T {id : Nat} {a : Act} {w : World} (hm : P.follows .mixedOrders = true)
  (h : wpAnyT P .any ops Q S L ops.size (Array.replicate ops.size false) a w.drew) : (Code.region id ops true).wp P Q a w := wp_region_any hm (wpAny_of_T _ _ _ _ h)
end
end Go.Proofs.YtpfagdmmhgcmnaaGreatDoor

namespace Go.Proofs.YtpfagdmmhgcmnaaGreatDoor
open Go.RowKit
section
variable {P : Program} (w : World)
end
theorem made_at {base : Nat} {e : TypeId} {size : Nat} (w : World) (H : Nat) (hH : w.heap.size = H) (hb : base ≤ H := by omega) : (w.alloc (.cells #[] e)).ownsRow base e size (.slice (some ⟨H, 0, none⟩) 0 0) 0 [] := by
 subst hH
 exact World.ownsRow_made w #[] 0 hb (Nat.zero_le _) (by simp)
theorem setO4 {w : World} {a b : Addr} {u v : Value} (h : w.cell? b = some v) (hne : a ≠ b) : (w.setCell a u).cell? b = some v := by rw [World.cell?_setCell_other (h := hne)]; exact h
theorem setS4 {w : World} {a : Addr} {u v : Value} (h : w.cell? a = some u) : (w.setCell a v).cell? a = some v := by rw [World.cell?_setCell_same (h := h)]
def Old3 (w : World) (b0 i0 b1 i1 i2 : Nat) (u0 u1 u2 : Value) : Prop := w.cell? ⟨b0, i0, none⟩ = some u0 ∧ w.cell? ⟨b1, i1, none⟩ = some u1 ∧ w.cell? ⟨b1, i2, none⟩ = some u2
theorem Old3.keep {w w' : World} {b0 i0 b1 i1 i2 : Nat} {u0 u1 u2 : Value} (h : Old3 w b0 i0 b1 i1 i2 u0 u1 u2) (hb : Below w.heap.size w w') : w'.cell? ⟨b0, i0, none⟩ = some u0 ∧ w'.cell? ⟨b1, i1, none⟩ = some u1 ∧ w'.cell? ⟨b1, i2, none⟩ = some u2 :=
 ⟨keepW hb h.1, keepW hb h.2.1, keepW hb h.2.2⟩
end Go.Proofs.YtpfagdmmhgcmnaaGreatDoor
