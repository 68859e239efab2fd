import Derived.Test.YtgdmcmicfoamlaaGreatDoorMixKg
import Derived.Test.YtgdmcmicfoamlaaGreatDoorMixO
set_option linter.unusedVariables false
set_option linter.unusedSimpArgs false
set_option maxHeartbeats 4000000
set_option maxRecDepth 100000
namespace Go.Proofs.YtgdmcmicfoamlaaGreatDoor
open Go.RowKit
def Zci (s : ByteArray) : List Value := [.string s]
def Zic : Rep ByteArray := Zg9 1 Zci (fun _ => rfl)
def Zjz (s : ByteArray) : List ByteArray := (Zca [] s.data.toList).map fun x => ⟨x.toArray⟩
theorem Zev (s : ByteArray) : Je s = Zjz s := by
 unfold Zjz
 rw [← Zfn, List.map_map]
 conv => lhs; rw [← List.map_id (Je s)]
 refine List.map_congr_left fun x _ => ?_
 rfl
def Jh (s : ByteArray) : List ByteArray := if s.data.toList.isEmpty then [] else if Zcj s then Zjz s else []
def Zef (n : Int) (x : ByteArray) : Int := max n x.size
def Jq (s : ByteArray) : Int := (Jh s).foldl Zef 0
def Zac (s : ByteArray) : Int := if Zcj s then s.size else 0
theorem Zr5 (s : ByteArray) (x : ByteArray) (h : x ∈ Zjz s) : x.size ≤ s.size := by
 rw [← Zev] at h
 obtain ⟨j, hj, rfl⟩ := List.getElem_of_mem h
 exact Zio s j hj
theorem Zdf (s : ByteArray) (x : ByteArray) (h : x ∈ Jh s) : x.size ≤ s.size := by
 unfold Jh at h
 split at h
 · cases h
 split at h
 · exact Zr5 s x h
 cases h
theorem Zst (xs : List ByteArray) (B : Nat) (h : ∀ x ∈ xs, x.size ≤ B) : ∀ n : Int, 0 ≤ n → n ≤ B → 0 ≤ xs.foldl Zef n ∧ xs.foldl Zef n ≤ B := by
 induction xs with
 | nil => intro n h0 h1; exact ⟨h0, h1⟩
 | cons x xs ih =>
  intro n h0 h1
  rw [List.foldl_cons]
  have hx := h x (List.mem_cons_self ..)
  exact ih (fun y hy => h y (List.mem_cons_of_mem _ hy)) _ (by unfold Zef; omega) (by unfold Zef; omega)
theorem Zdn (s : ByteArray) : 0 ≤ Jq s ∧ Jq s ≤ s.size := Zst _ s.size (Zdf s) 0 (Int.le_refl _) (by omega)
theorem Zem (s : ByteArray) (hs : s.size ≤ 1048576) : (Jh s).length ≤ 2000000 := by
 unfold Jh
 split
 · simp
 split
 · rw [← Zev]
   have hlen := Zcz s
   have hcl := Lib.countB_le ⟨#[32]⟩ (by decide) s.size s (Nat.le_refl _)
   omega
 simp
theorem Zif {w W : World} {A : Option Addr} {xs : List ByteArray} (h : Rd Zic w A xs) (hb : Below w.heap.size w W) (k : Nat) (hk : k < xs.length) : ∃ b o, A = some ⟨b, o, none⟩ ∧ b < w.heap.size ∧ W.cell? ⟨b, o + k, none⟩ = some (.string xs[k]) := by
 obtain ⟨b, o, c0, e, hlt, hK, hc⟩ := h.at1 rfl hb k hk
 have q : [c0] = [.string xs[k]] := hK
 simp only [List.cons.injEq, and_true] at q
 subst q
 exact ⟨b, o, e, hlt, hc⟩
theorem Zvg (w : World) (xs : List ByteArray) (hl : xs.length ≤ 2000000) : Rd Zic (w.alloc (.cells (xs.map Value.string).toArray 9)) (some ⟨w.heap.size, 0, none⟩) xs :=
 ⟨by omega, fun _ => ⟨w.heap.size, 0, rfl, by simp, fun j hj => ⟨[.string xs[j]], rfl, fun i u hu => by
  have : i = 0 := by have := (List.getElem?_eq_some_iff.1 hu).1; simp at this; omega
  subst this
  simp at hu; subst hu
  have e0 : (0 : Nat) + j * Zic.sz + 0 = j := by show 0 + j * 1 + 0 = j; omega
  rw [e0]
  exact Zj _ _ _ _ _ _ (by simp [hj])⟩⟩⟩
theorem Zgb (s : ByteArray) (w : World) (hs : s.size ≤ 1048576) (hw : Zb9 w) : Calls Tryz.prog 109 #[.string s] w (fun e w' => ∃ A c, e = .returned (.slice A (Jh s).length c) ∧ Rd Zic w' A (Jh s) ∧ Below w.heap.size w w') := by
 have hemp : s.toList.isEmpty = s.data.toList.isEmpty := by rw [ByteArray.toList_eq]
 have hwl := Zem s hs
 by_cases he : s.toList.isEmpty = true
 ·
  have hfin : Jh s = [] := by unfold Jh; rw [if_pos (by rw [← hemp]; exact he)]
  rw [hfin]
  clear hemp hfin hwl
  go_enter Tryz.func109, Tryz.ntmps109
  go_wp2_with fail
  go_ret
  exact ⟨none, 0, rfl, Rd.nil _ _ _, Zf _⟩
 ·
  have he' : s.toList.isEmpty = false := by simpa using he
  have hT := Zez s w hs hw
  have hne : ¬ s.data.toList.isEmpty = true := by rw [← hemp]; exact he
  cases hok : Zcj s with
  | false =>
   rw [hok] at hT
   have hfin : Jh s = [] := by unfold Jh; rw [if_neg hne, hok]; rfl
   rw [hfin]
   clear hemp hfin hwl hne he
   go_enter Tryz.func109, Tryz.ntmps109
   go_wp2_with fail
   refine hT.mono ?_
   rintro _ w' ⟨rfl, hb⟩
   go_wp2_with fail
   go_ret
   exact ⟨none, 0, rfl, Rd.nil _ _ _, hb⟩
  | true =>
   rw [hok] at hT
   have hfin : Jh s = Je s := by unfold Jh; rw [if_neg hne, hok, Zev]; rfl
   rw [hfin] at hwl ⊢
   have hS := fun (W : World) (hb : Below w.heap.size w W) => Zlv s W hs (hw.below hb)
   clear hemp hfin hne he
   go_enter Tryz.func109, Tryz.ntmps109
   go_wp2_with fail
   refine hT.mono ?_
   rintro _ w' ⟨rfl, hb⟩
   have hS2 := hS w' hb
   clear hS hT
   go_wp2_with fail
   refine hS2.mono ?_
   rintro _ w2 ⟨rfl, rfl⟩
   go_wp2_with fail
   go_ret
   exact ⟨_, _, rfl, Zvg w' _ hwl, Zc hb _⟩
theorem Zk6 (s : ByteArray) (w : World) (hs : s.size ≤ 1048576) (hw : Zb9 w) : Calls Tryz.prog 207 #[.string s] w fun e w' => e = .returned (.int .i64 (Jq s)) ∧ Below w.heap.size w w' := by
 have hW := Zgb s w hs hw
 have hlen := Zem s hs
 have hsz := Zdf s
 unfold Jq
 generalize Jh s = ws at hW hlen hsz ⊢
 have HZ := Za hsz
 clear hsz hw
 go_enter Tryz.func207, Tryz.ntmps207
 go_wp2_with fail
 refine hW.mono ?_
 rintro _ w1 ⟨A, c, rfl, hr, hb⟩
 have HR := Za hr
 have HB := Za hb
 clear hr hb hW
 have hmax := Zdc
 go_wp2_with fail
 go_loopg [3, 5, 9] ws.length (fun gg s3 s5 s9 wr => ∃ i : Nat, s9 = .int .i64 i ∧ i ≤ ws.length ∧ ws.length - i ≤ gg ∧ s3 = .int .i64 ((ws.take i).foldl Zef 0) ∧ wr = w1)
 case atStart => exact ⟨0, rfl, Nat.zero_le _, by omega, rfl, rfl⟩
 obtain ⟨i, rfl, hin, hgg, rfl, rfl⟩ := hrel
 by_cases hlt : i < ws.length
 ·
  have hltz : (i : Int) < (ws.length : Int) := by omega
  obtain ⟨b, o, rfl, _, c1⟩ := Zif HR.out (Zf _) i hlt
  have hst : (ws.take (i + 1)).foldl Zef 0 = Zef ((ws.take i).foldl Zef 0) ws[i] := by rw [List.take_succ_eq_append_getElem hlt, List.foldl_append]; rfl
  unfold Zef at hst
  have HST := Za hst
  clear hst
  go_wp2_with fail
  go_roundg (ws.length - (i + 1))
  case measure => omega
  case rel => exact ⟨i + 1, by go_num, by omega, by omega, by rw [show Zef = (fun (n : Int) (x : ByteArray) => max n (x.size : Int)) from rfl, HST.out], rfl⟩
 have hltz : ¬ (i : Int) < (ws.length : Int) := by omega
 have hst := Za (show (ws.take i).foldl Zef 0 = ws.foldl Zef 0 by rw [List.take_of_length_le (by omega)])
 go_wp2_with fail
 go_ret
 exact ⟨by rw [hst.out]; rfl, HB.out⟩
theorem Zm0 (s : ByteArray) (w : World) (hs : s.size ≤ 1048576) (hw : Zb9 w) : Calls Tryz.prog 208 #[.string s] w fun e w' => e = .returned (.int .i64 (Zac s)) ∧ Below w.heap.size w w' := by
 have hT := Zez s w hs hw
 unfold Zac
 cases hok : Zcj s with
 | false =>
  rw [hok] at hT
  go_enter Tryz.func208, Tryz.ntmps208
  go_wp2_with fail
  refine hT.mono ?_
  rintro _ w1 ⟨rfl, hb⟩
  go_wp2_with fail
  go_ret
  exact ⟨rfl, hb⟩
 | true =>
  rw [hok] at hT
  go_enter Tryz.func208, Tryz.ntmps208
  go_wp2_with fail
  refine hT.mono ?_
  rintro _ w1 ⟨rfl, hb⟩
  go_wp2_with fail
  go_ret
  exact ⟨rfl, hb⟩
theorem Zmx (s : ByteArray) (w : World) (hs : s.size ≤ 1048576) : Calls Tryz.prog 228 #[.string s] w fun e w' => e = .returned (.int .i64 (Zac s)) ∧ w' = w := by
 have hT := Zgx s w hs
 unfold Zac
 cases hok : Zcj s with
 | false =>
  rw [hok] at hT
  go_enter Tryz.func228, Tryz.ntmps228
  go_wp2_with fail
  refine hT.mono ?_
  rintro _ w1 ⟨rfl, hb⟩
  obtain rfl := hb.symm
  go_wp2_with fail
  go_ret
  exact ⟨rfl, rfl⟩
 | true =>
  rw [hok] at hT
  go_enter Tryz.func228, Tryz.ntmps228
  go_wp2_with fail
  refine hT.mono ?_
  rintro _ w1 ⟨rfl, hb⟩
  obtain rfl := hb.symm
  go_wp2_with fail
  go_ret
  exact ⟨rfl, rfl⟩
def Yx (w : World) (base : Nat) (v : Value) (xs : List ByteArray) : Prop := w.ownsRow base 9 1 v xs.length (xs.flatMap Zci)
theorem Zsl : Tryz.prog.underlying 44 = some (.slice 9) := by kernel_rfl
theorem Zr6 : (Tryz.prog.info? 9).map (fun i => (i.zero, i.size, i.bytes)) = some (some (.string ⟨#[]⟩), 1, 16) := by kernel_rfl
theorem Ys {w : World} {ops : Array Oper} {rest : List Oper} {o : Oper} {a : Act} {Q : Exit → Act → World → Prop} (hgd : o.guard = none) (s x : Operand)
 (ho : o.op = .call { callee := .builtin .append, args := #[s, x], argTypes := #[44, 44] }) (base : Nat) (v : Value) (xs : List ByteArray) (hs : a.eval s = v) (hown : Yx w base v xs)
 (ad : Addr) (c : Nat) (y : ByteArray) (hx : a.eval x = .slice (some ad) 1 c) (hc : w.cell? ad = some (.string y)) (hn : xs.length ≤ 3000000) (hbase : base ≤ w.heap.size)
 (h : ∀ v' w', Hid (Yx w' base v' (xs ++ [y])) → Hid (w.grownBy w' v.ownBlock) → Hid (∀ b, v'.ownBlock = some b → v.ownBlock = some b ∨ w.heap.size ≤ b) → wpList Tryz.prog ops Q rest (a.put o.dst v') w') : wpList Tryz.prog ops Q (o :: rest) a w := by
 obtain ⟨i0, hi, hz0, hz1, hz2⟩ := info_parts Zr6
 refine Zeo hgd s x 44 ho base 9 i0 _ 1 16 Zsl hi hz0 hz1 hz2 rfl (by decide) v xs.length (xs.flatMap Zci) hs hown ad 1 c [.string y] hx rfl (fun j u hj => ?_) (fun u hu => by rw [List.mem_singleton.1 hu]; rfl) (by unfold maxLen; omega) (by omega) hbase fun v' w' h1 h2 h3 => h v' w' (show Yx _ _ _ _ from ?_) h2 h3
 · have : j = 0 := by have := (List.getElem?_eq_some_iff.1 hj).1; simp at this; omega
   subst this; simp at hj; subst hj
   obtain ⟨b, o, sp⟩ := ad
   simpa [Addr.add] using hc
 unfold Yx
 rw [List.length_append, List.flatMap_append]
 exact h1
theorem Yx.rd {w : World} {base : Nat} {v : Value} {xs : List ByteArray} (h : Yx w base v xs) : Zml Zic w v xs := Zdz h
theorem Yx.lt {w : World} {base : Nat} {v : Value} {xs : List ByteArray} (h : Yx w base v xs) {b : Nat} (hb : v.ownBlock = some b) : base ≤ b ∧ b < w.heap.size := Qo h hb
def toB (l : List UInt8) : ByteArray := ⟨l.toArray⟩
theorem Zrl (W : World) (ch : UInt8) : (convert 22 9 (.slice (some ⟨W.heap.size, 0, none⟩) 1 1)).run Tryz.prog (W.alloc (.cells #[.int .u8 ch.toNat] 5)) = .ok (.string ⟨#[ch]⟩) (W.alloc (.cells #[.int .u8 ch.toNat] 5)) := by
 refine run_convert_bytes_back (P := Tryz.prog) _ 22 9 5 ⟨W.heap.size, 0, none⟩ 1 [ch] (by kernel_rfl) (by kernel_rfl) (by kernel_rfl) ?_
 intro j hj
 have : j = 0 := by simpa using hj
 subst this
 rw [Addr.add_lit]
 exact Zj _ _ _ _ _ _ (by simp)
theorem Ztu (l : List UInt8) (c : UInt8) : toB l ++ ⟨#[c]⟩ = toB (l ++ [c]) := by
 apply ByteArray.ext
 simp [toB]
theorem Zl1 (s : ByteArray) : (Zjz s).length ≤ s.size + 1 := by
 rw [← Zev]
 have hlen := Zcz s
 have hcl := Lib.countB_le ⟨#[32]⟩ (by decide) s.size s (Nat.le_refl _)
 omega
theorem Zpo (s : ByteArray) (w : World) (hs : s.size ≤ 1048576) : Calls Tryz.prog 227 #[.string s] w fun e w' => ∃ A c, e = .returned (.slice A (Zjz s).length c) ∧ Rd Zic w' A (Zjz s) ∧ Below w.heap.size w w' := by
 have hcc := Zl1 s
 go_enter Tryz.func227, Tryz.ntmps227
 go_wp2_with fail
 have h0 : Yx (w.alloc (.cells #[] 9)) w.heap.size (.slice (some ⟨w.heap.size, 0, none⟩) 0 0) [] := World.ownsRow_made w #[] 0 (Nat.le_refl _) (Nat.zero_le _) (by simp)
 have H0 := Za h0
 clear h0
 go_loopg [3, 4, 5] s.size (fun gg s3 s4 s5 wr => ∃ (i : Nat) (xs : List ByteArray) (word : List UInt8), s5 = .int .i64 i ∧ i ≤ s.size ∧ s.size - i ≤ gg ∧ s4 = .string (toB word) ∧ word.length ≤ i ∧ Aside (Yx wr w.heap.size s3 xs) ∧ Aside (Below w.heap.size w wr) ∧ Aside (xs ++ (Zca word (s.data.toList.drop i)).map toB = Zjz s))
 case atStart => exact ⟨0, [], [], rfl, Nat.zero_le _, by omega, rfl, Nat.zero_le _, H0.out, Zc (Zf _) _, (show Aside _ from rfl)⟩
 obtain ⟨i, xs, word, rfl, hin, hgg, rfl, hwl, HO, HB, HX⟩ := hrel
 clear H0
 by_cases hlt : i < s.size
 ·
  have hltz : (i : Int) < (s.size : Int) := by omega
  have hdl : i < s.data.toList.length := by simpa using hlt
  have hx := HX.out
  rw [List.drop_eq_getElem_cons hdl, Zca] at hx
  have hget : s.data.toList[i] = s[i] := rfl
  rw [hget] at hx
  have eq32 : ∀ c : UInt8, ((c.toNat : Int) == 32) = decide (c = 32) := fun c => by
   rw [Bool.eq_iff_iff]; simp [← UInt8.toNat_inj]; omega
  by_cases hA : s[i] = 32
  ·
   rw [if_pos hA] at hx
   have hA' : ((s[i].toNat : Int) == 32) = true := by rw [eq32]; simpa using hA
   have HX2 : Hid ((xs ++ [toB word]) ++ (Zca [] (s.data.toList.drop (i + 1))).map toB = Zjz s) := by show _ = _; rw [← hx]; simp
   have hxl : xs.length ≤ 3000000 := by have := congrArg List.length hx; simp at this; omega
   have HXL := Za hxl
   clear hx hA hget hxl eq32
   go_wp2_with (at_builtin; refine Ys rfl (.tmp 17) (.tmp 19) rfl w.heap.size _ xs rfl (Qx HO.out (Zc (Zf _) _)) ⟨wr.heap.size, 0, none⟩ 1 (toB word) rfl (Zj _ _ _ _ 0 _ rfl) HXL.out (by have := HB.out.size; simp; omega) ?_)
   intro v' w4 H1 H2 H3
   have HB2 : Hid (Below w.heap.size w w4) := (Zc HB.out (.cells #[.string (toB word)] 9)).trans (Qg H2.out (by have := HB.out.size; simp; omega) (fun b hb => (HO.out.lt hb).1))
   clear H2 H3 HB HO HX hA'
   go_wp2_with fail
   go_roundg (s.size - (i + 1))
   case measure => omega
   case rel => exact ⟨i + 1, _, [], by go_num, by omega, by omega, rfl, Nat.zero_le _, H1.out, HB2.out, HX2.out⟩
  rw [if_neg hA] at hx
  have hA' : ((s[i].toNat : Int) == 32) = false := by rw [eq32]; simpa using hA
  have HX2 := Za hx
  have hcv := Zrl
  have hsz : (toB word).size ≤ 1048576 := by show word.toArray.size ≤ _; simp; omega
  have hsz1 : ∀ c : UInt8, (ByteArray.mk #[c]).size = 1 := fun c => rfl
  have hsz2 : ∀ c : UInt8, (toB word).size + (ByteArray.mk #[c]).size ≤ 9223372036854775807 := fun c => by rw [hsz1]; omega
  clear hx hA hget eq32
  go_wp2_with fail
  go_roundg (s.size - (i + 1))
  case measure => omega
  case rel => exact ⟨i + 1, xs, word ++ [s[i]], by go_num, by omega, by omega, by rw [← Ztu], by simp; omega, Qx HO.out (Zc (Zf _) _), Zc HB.out _, HX2.out⟩
 have hltz : ¬ (i : Int) < (s.size : Int) := by omega
 have hx := HX.out
 rw [List.drop_eq_nil_of_le (by simp; omega), Zca] at hx
 have hxl : xs.length ≤ 3000000 := by have := congrArg List.length hx; simp at this; omega
 have HXL := Za hxl
 have HX2 : Hid (xs ++ [toB word] = Zjz s) := hx
 clear hx hxl HX
 go_wp2_with (at_builtin; refine Ys rfl (.tmp 28) (.tmp 30) rfl w.heap.size _ xs rfl (Qx HO.out (Zc (Zf _) _)) ⟨wr.heap.size, 0, none⟩ 1 (toB word) rfl (Zj _ _ _ _ 0 _ rfl) HXL.out (by have := HB.out.size; simp; omega) ?_)
 intro v' w4 H1 H2 H3
 have HB2 : Hid (Below w.heap.size w w4) := (Zc HB.out (.cells #[.string (toB word)] 9)).trans (Qg H2.out (by have := HB.out.size; simp; omega) (fun b hb => (HO.out.lt hb).1))
 have h1 := H1.out
 rw [HX2.out] at h1
 obtain ⟨A, c, rfl, _, hr⟩ := h1.rd
 have HR := Za hr
 clear h1 hr H1 H2 H3
 go_wp2_with fail
 go_ret
 exact ⟨A, c, rfl, HR.out, HB2.out⟩
theorem Zge (s : ByteArray) (w : World) (hs : s.size ≤ 1048576) : Calls Tryz.prog 189 #[.string s] w (fun e w' => ∃ A c, e = .returned (.slice A (Jh s).length c) ∧ Rd Zic w' A (Jh s) ∧ Below w.heap.size w w') := by
 have hemp : s.toList.isEmpty = s.data.toList.isEmpty := by rw [ByteArray.toList_eq]
 by_cases he : s.toList.isEmpty = true
 ·
  have hfin : Jh s = [] := by unfold Jh; rw [if_pos (by rw [← hemp]; exact he)]
  rw [hfin]
  clear hemp hfin
  go_enter Tryz.func189, Tryz.ntmps189
  go_wp2_with fail
  go_ret
  exact ⟨_, _, rfl, Rd.nil _ _ _, Zc (Zf _) _⟩
 ·
  have he' : s.toList.isEmpty = false := by simpa using he
  have hT := Zgx s w hs
  have hne : ¬ s.data.toList.isEmpty = true := by rw [← hemp]; exact he
  cases hok : Zcj s with
  | false =>
   rw [hok] at hT
   have hfin : Jh s = [] := by unfold Jh; rw [if_neg hne, hok]; rfl
   rw [hfin]
   clear hemp hfin hne he
   go_enter Tryz.func189, Tryz.ntmps189
   go_wp2_with fail
   refine hT.mono ?_
   rintro _ w' ⟨rfl, hb⟩
   obtain rfl := hb.symm
   go_wp2_with fail
   go_ret
   exact ⟨_, _, rfl, Rd.nil _ _ _, Zc (Zf _) _⟩
  | true =>
   rw [hok] at hT
   have hfin : Jh s = Zjz s := by unfold Jh; rw [if_neg hne, hok]; rfl
   rw [hfin]
   have hS := Zpo s w hs
   clear hemp hfin hne he
   go_enter Tryz.func189, Tryz.ntmps189
   go_wp2_with fail
   refine hT.mono ?_
   rintro _ w' ⟨rfl, hb⟩
   obtain rfl := hb.symm
   clear hT
   go_wp2_with fail
   refine hS.mono ?_
   rintro _ w2 ⟨A, c, rfl, hr, hb2⟩
   go_wp2_with fail
   go_ret
   exact ⟨_, _, rfl, hr, hb2⟩
theorem Zku (s : ByteArray) (w : World) (hs : s.size ≤ 1048576) : Calls Tryz.prog 229 #[.string s] w fun e w' => e = .returned (.int .i64 (Jq s)) ∧ Below w.heap.size w w' := by
 have hW := Zge s w hs
 have hlen := Zem s hs
 unfold Jq
 generalize Jh s = ws at hW hlen ⊢
 go_enter Tryz.func229, Tryz.ntmps229
 go_wp2_with fail
 refine hW.mono ?_
 rintro _ w1 ⟨A, c, rfl, hr, hb⟩
 have HR := Za hr
 have HB := Za hb
 clear hr hb hW
 have hmax := Zjm
 go_wp2_with fail
 go_loopg [4, 5] ws.length (fun gg s4 s5 wr => ∃ i : Nat, s5 = .int .i64 i ∧ i ≤ ws.length ∧ ws.length - i ≤ gg ∧ s4 = .int .i64 ((ws.take i).foldl Zef 0) ∧ wr = w1)
 case atStart => exact ⟨0, rfl, Nat.zero_le _, by omega, rfl, rfl⟩
 obtain ⟨i, rfl, hin, hgg, rfl, rfl⟩ := hrel
 by_cases hlt : i < ws.length
 ·
  have hltz : (i : Int) < (ws.length : Int) := by omega
  obtain ⟨b, o, rfl, _, c1⟩ := Zif HR.out (Zf _) i hlt
  have hst : (ws.take (i + 1)).foldl Zef 0 = Zef ((ws.take i).foldl Zef 0) ws[i] := by rw [List.take_succ_eq_append_getElem hlt, List.foldl_append]; rfl
  unfold Zef at hst
  have HST := Za hst
  clear hst
  go_wp2_with fail
  refine (hmax _ _ _).mono ?_
  rintro _ w2 ⟨rfl, hw2⟩
  obtain rfl := hw2.symm
  go_wp2_with fail
  go_roundg (ws.length - (i + 1))
  case measure => omega
  case rel => exact ⟨i + 1, by go_num, by omega, by omega, by rw [show Zef = (fun (n : Int) (x : ByteArray) => max n (x.size : Int)) from rfl, HST.out], rfl⟩
 have hltz : ¬ (i : Int) < (ws.length : Int) := by omega
 have hst := Za (show (ws.take i).foldl Zef 0 = ws.foldl Zef 0 by rw [List.take_of_length_le (by omega)])
 go_wp2_with fail
 go_ret
 exact ⟨by rw [hst.out]; rfl, HB.out⟩
def Zaw (l w : ByteArray) : ByteArray := l ++ (⟨#[32]⟩ ++ w)
def Zel (width : Int) (out : List ByteArray) (w : ByteArray) : List ByteArray :=
 match out.getLast? with
 | some l => if (l.size : Int) + 1 + w.size ≤ width then out.dropLast ++ [Zaw l w] else out ++ [w]
 | none => [w]
def Zfd (width : Int) (words : List ByteArray) : List ByteArray := words.foldl (Zel width) []
def Zch (s : ByteArray) (width : Int) : List ByteArray := Zfd width (Jh s)
def Zib (x : ByteArray) : List UInt8 := x.data.toList
theorem Zek (x : ByteArray) : (Zib x).length = x.size := by simp [Zib]
theorem Zmn (l w : ByteArray) : Zib (Zaw l w) = Zib l ++ 32 :: Zib w := by simp [Zib, Zaw]
theorem Zpz (l w : ByteArray) : (Zaw l w).size = l.size + 1 + w.size := by
 rw [← Zek, Zmn, List.length_append, List.length_cons, Zek, Zek]; omega
theorem Zjq (width : Int) (out : List ByteArray) (w : ByteArray) : (Zel width out w).length ≤ out.length + 1 := by
 rcases Zjb out with rfl | ⟨m, l, rfl⟩
 · simp [Zel]
 unfold Zel
 rw [List.getLast?_append, List.getLast?_singleton]
 simp only [Option.some_or, List.dropLast_concat]
 split <;> simp
theorem Zjv (width : Int) : ∀ (ws out : List ByteArray), (ws.foldl (Zel width) out).length ≤ out.length + ws.length
 | [], out => by simp
 | w :: ws, out => by
  rw [List.foldl_cons, List.length_cons]
  have h1 := Zjv width ws (Zel width out w)
  have h2 := Zjq width out w
  omega
theorem Zln {width : Int} {B : Nat} (hw : width ≤ B) {out : List ByteArray} (ho : ∀ l ∈ out, l.size ≤ B) {w : ByteArray} (h : w.size ≤ B) : ∀ l ∈ Zel width out w, l.size ≤ B := by
 rcases Zjb out with rfl | ⟨m, x, rfl⟩
 · intro l hl; simp [Zel] at hl; subst hl; exact h
 intro l hl
 unfold Zel at hl
 rw [List.getLast?_append, List.getLast?_singleton] at hl
 simp only [Option.some_or, List.dropLast_concat] at hl
 split at hl
 · rcases List.mem_append.1 hl with hl | hl
   · exact ho l (List.mem_append_left _ hl)
   rw [List.mem_singleton.1 hl, Zpz]; omega
 rcases List.mem_append.1 hl with hl | hl
 · exact ho l hl
 rw [List.mem_singleton.1 hl]; exact h
theorem Zt2 (xs : List ByteArray) (j : Nat) (h : j < xs.length) : (xs.flatMap Zci)[j]? = some (.string xs[j]) := by
 have := Zd2 Zci 1 (fun _ => rfl) xs j 0 (.string xs[j]) h rfl
 simpa using this
theorem Zqx (xs : List ByteArray) : xs.flatMap Zci = xs.map Value.string := by
 induction xs with
 | nil => rfl
 | cons x xs ih => rw [List.flatMap_cons, ih]; rfl
theorem Yx.form {w : World} {base : Nat} {v : Value} {xs : List ByteArray} (h : Yx w base v xs) : ∃ A c, v = .slice A xs.length c := Zbc h
theorem Yx.at {w : World} {base : Nat} {v : Value} {xs : List ByteArray} (h : Yx w base v xs) (hn : 0 < xs.length) : ∃ g c, v = .slice (some ⟨g, 0, none⟩) xs.length c ∧ base ≤ g ∧ g < w.heap.size := by
 rcases h.2 with ⟨_, h0⟩ | ⟨g, cap, cur, rfl, hb, hh, h1, h2, _⟩
 · omega
 exact ⟨g, cap, rfl, hb, (Array.getElem?_eq_some_iff.1 hh).1⟩
theorem Yx.cell {w : World} {base g c n : Nat} {xs : List ByteArray} (h : Yx w base (.slice (some ⟨g, 0, none⟩) n c) xs) (j : Nat) (hj : j < xs.length) : w.cell? ⟨g, j, none⟩ = some (.string xs[j]) := by
 have hn : n = xs.length := by obtain ⟨_, _, e⟩ := h.form; injection e
 subst hn
 have := World.ownsRow.cellAt h j (by omega)
 rw [Zt2 xs j hj] at this
 exact this
theorem Yx.frozen {w : World} {base g c n : Nat} {xs : List ByteArray} (h : Yx w base (.slice (some ⟨g, 0, none⟩) n c) xs) (j : Nat) : w.frozen? ⟨g, j, none⟩ = false := by
 have hn : n = xs.length := by obtain ⟨_, _, e⟩ := h.form; injection e
 subst hn
 exact World.ownsRow.frozenAt h j
theorem Yx.store {w : World} {base g c n : Nat} {xs : List ByteArray} (h : Yx w base (.slice (some ⟨g, 0, none⟩) n c) xs) (j : Nat) (y : ByteArray) : Yx (w.setCell ⟨g, j, none⟩ (.string y)) base (.slice (some ⟨g, 0, none⟩) n c) (xs.set j y) := by
 have hn : n = xs.length := by obtain ⟨_, _, e⟩ := h.form; injection e
 subst hn
 unfold Yx
 rw [List.length_set, Zqx, List.map_set, ← Zqx]
 exact (World.ownsRow.stored h j (.string y)).1
theorem Yx.below {w w' : World} {base : Nat} {v : Value} {xs : List ByteArray} (h : Yx w base v xs) (hb : Below w.heap.size w w') : Yx w' base v xs := Qx h hb
theorem Yx.base {w : World} {base base' : Nat} {v : Value} {xs : List ByteArray} (h : Yx w base v xs) (hb : base' ≤ base) : Yx w base' v xs := Jw h hb
theorem Yx.nil (w : World) (base : Nat) : Yx w base (.slice none 0 0) [] := ⟨rfl, .inl ⟨rfl, rfl⟩⟩
theorem Zlh (s : ByteArray) (width : Int) (w : World) (hs : s.size ≤ 1048576) (hw : Zb9 w) (hwd : 0 ≤ width ∧ width ≤ 1000000) :
 Calls Tryz.prog 131 #[.string s, .int .i64 width] w fun e w' => ∃ v, e = .returned v ∧ Yx w' w.heap.size v (Zch s width) ∧ Below w.heap.size w w' := by
 have hW := Zgb s w hs hw
 have hlen := Zem s hs
 have hsz := fun x hx => Nat.le_trans (Zdf s x hx) hs
 unfold Zch
 generalize Jh s = ws at hW hlen hsz ⊢
 have HZ := Za hsz
 clear hsz hw
 go_enter Tryz.func131, Tryz.ntmps131
 go_wp2_with fail
 refine hW.mono ?_
 rintro _ w1 ⟨A, c, rfl, hr, hb⟩
 have HR := Za hr
 have HB := Za hb
 have hbs := Za hb.size
 clear hr hb hW
 go_wp2_with fail
 go_loopg [5, 7, 8, 12] ws.length (fun gg s5 s7 s8 s12 wr => ∃ (i : Nat) (X : List ByteArray), s12 = .int .i64 i ∧ i ≤ ws.length ∧ ws.length - i ≤ gg ∧ X.length ≤ i ∧ Aside ((ws.drop i).foldl (Zel width) X = Zfd width ws) ∧ Aside (Yx wr w1.heap.size s5 X) ∧ Aside (∀ l ∈ X, l.size ≤ 1048576) ∧ Aside (Below w1.heap.size w1 wr))
 case atStart => exact ⟨0, [], rfl, Nat.zero_le _, by omega, Nat.zero_le _, (show Aside _ from rfl), Yx.nil _ _, (show Aside _ from fun l hl => by cases hl), Zf _⟩
 obtain ⟨i, X, rfl, hin, hgg, hXl, HX, HO, HZX, HBR⟩ := hrel
 by_cases hlt : i < ws.length
 ·
  have hltz : (i : Int) < (ws.length : Int) := by omega
  obtain ⟨b, o, rfl, _, c1⟩ := Zif HR.out HBR.out i hlt
  have hx := HX.out
  rw [List.drop_eq_getElem_cons hlt, List.foldl_cons] at hx
  have hws := HZ.out _ (List.getElem_mem hlt)
  have hzn := Zln (width := width) (B := 1048576) (by omega) HZX.out hws
  have hln := Zjq width X ws[i]
  generalize ws[i] = x at c1 hx hws hzn hln
  have HXN := Za hx
  have HZN := Za hzn
  clear hx hzn HX
  have key : Zel width X x = X ++ [x] → Hid (((ws.drop (i + 1)).foldl (Zel width) (X ++ [x]) = Zfd width ws) ∧ ∀ l ∈ X ++ [x], l.size ≤ 1048576) := fun hq => by
   rw [← hq]; exact ⟨HXN.out, HZN.out⟩
  have hXn : X.length ≤ 3000000 := by omega
  rcases Zjb X with rfl | ⟨M, l, rfl⟩
  ·
   have HK := key rfl
   have hg1 : ¬ (-1 : Int) ≥ 0 := by decide
   have HXL := Za hXn
   obtain ⟨A5, cc5, rfl⟩ := HO.out.form
   clear key HXN HZN HZX hln hXn
   go_wp2_with (at_builtin; refine Ys rfl (.tmp 42) (.tmp 44) rfl w1.heap.size _ [] rfl (HO.out.below (Zc (Zf _) _)) ⟨wr.heap.size, 0, none⟩ 1 x rfl (Zj _ _ _ _ 0 _ rfl) HXL.out (by have := HBR.out.size; simp; omega) ?_)
   intro v' w4 H1 H2 H3
   have HBN : Hid (Below w1.heap.size w1 w4) := (Zc HBR.out (.cells #[.string x] 9)).trans (Qg H2.out (by have := HBR.out.size; simp; omega) (fun b hb => (HO.out.lt hb).1))
   clear H2 H3 HBR HO HXL
   go_wp2_with fail
   go_roundg (ws.length - (i + 1))
   case measure => omega
   case rel => exact ⟨i + 1, _, by go_num, by omega, by omega, by simp, (show Aside _ from HK.out.1), H1.out, (show Aside _ from HK.out.2), HBN.out⟩
  obtain ⟨g, cc5, rfl, hbg, hgl⟩ := HO.out.at (by simp)
  have hcl := HO.out.cell M.length (by simp)
  have hfz := HO.out.frozen M.length
  have e1 : (M ++ [l])[M.length]'(by simp) = l := by simp
  rw [e1] at hcl
  have e2 : (M ++ [l]).length = M.length + 1 := by simp
  have HO2 : Hid (Yx wr w1.heap.size (.slice (some ⟨g, 0, none⟩) (M.length + 1) cc5) (M ++ [l])) := by have := HO.out; rw [e2] at this; exact this
  rw [e2] at hXl hXn hln ⊢
  have hlz := HZX.out l (by simp)
  have HLZ := Za hlz
  have t1 : IntKind.i64.wrap (((M.length + 1 : Nat) : Int) - 1) = (M.length : Int) := by rw [IntKind.wrap_i64]; omega
  have hg1 : (M.length : Int) ≥ 0 := by omega
  have hg2 : (M.length : Int) < ((M.length + 1 : Nat) : Int) := by omega
  have t2 := IntWalk.i64_in ((l.size : Int) + 1) (by omega)
  have t3 := IntWalk.i64_in ((l.size : Int) + 1 + (x.size : Int)) (by omega)
  have hadd : Zel width (M ++ [l]) x = if (l.size : Int) + 1 + x.size ≤ width then M ++ [Zaw l x] else M ++ [l] ++ [x] := by
   unfold Zel
   rw [List.getLast?_append, List.getLast?_singleton]
   simp only [Option.some_or, List.dropLast_concat]
  have HBG := Za hbg
  by_cases hle : (l.size : Int) + 1 + x.size ≤ width
  ·
   rw [if_pos hle] at hadd
   have HK : Hid (((ws.drop (i + 1)).foldl (Zel width) (M ++ [Zaw l x]) = Zfd width ws) ∧ ∀ y ∈ M ++ [Zaw l x], y.size ≤ 1048576) := by rw [← hadd]; exact ⟨HXN.out, HZN.out⟩
   have hsa : (ByteArray.mk #[32]).size + x.size ≤ 9223372036854775807 := by show 1 + x.size ≤ _; omega
   have hsb : l.size + (ByteArray.mk #[32] ++ x).size ≤ 9223372036854775807 := by rw [ByteArray.size_append]; show l.size + (1 + x.size) ≤ _; omega
   have e3 : (M ++ [l]).set M.length (Zaw l x) = M ++ [Zaw l x] := by rw [List.set_append_right _ _ (Nat.le_refl _)]; simp
   have HON : Hid (Yx (wr.setCell ⟨g, M.length, none⟩ (.string (l ++ (ByteArray.mk #[32] ++ x)))) w1.heap.size (.slice (some ⟨g, 0, none⟩) (M.length + 1) cc5) (M ++ [Zaw l x])) := by
    have := HO2.out.store M.length (Zaw l x); rw [e3] at this; exact this
   clear hadd HXN HZN key HO e1 e2 e3 hlz hws HZX hbg HO2
   go_wp2_with fail
   go_roundg (ws.length - (i + 1))
   case measure => omega
   case rel => exact ⟨i + 1, _, by go_num, by omega, by omega, by simp; omega, (show Aside _ from HK.out.1), HON.out, (show Aside _ from HK.out.2), Yi HBR.out HBG.out _⟩
  rw [if_neg hle] at hadd
  have HK := key hadd
  have HXL := Za hXn
  clear hadd HXN HZN key HO e1 hlz hws HZX hbg hXn
  go_wp2_with (at_builtin; refine Ys rfl (.tmp 42) (.tmp 44) rfl w1.heap.size _ (M ++ [l]) rfl (HO2.out.below (Zc (Zf _) _)) ⟨wr.heap.size, 0, none⟩ 1 x rfl (Zj _ _ _ _ 0 _ rfl) (by rw [e2]; exact HXL.out) (by have := HBR.out.size; simp; omega) ?_)
  intro v' w4 H1 H2 H3
  have HBN : Hid (Below w1.heap.size w1 w4) := (Zc HBR.out (.cells #[.string x] 9)).trans (Qg H2.out (by have := HBR.out.size; simp; omega) (fun b hb => (HO2.out.lt hb).1))
  clear H2 H3 HO2 HXL
  go_wp2_with fail
  go_roundg (ws.length - (i + 1))
  case measure => omega
  case rel => exact ⟨i + 1, _, by go_num, by omega, by omega, by simp; omega, (show Aside _ from HK.out.1), (show Aside _ from by have := H1.out; rw [List.append_assoc]; exact this), (show Aside _ from HK.out.2), HBN.out⟩
 have hltz : ¬ (i : Int) < (ws.length : Int) := by omega
 have hx := HX.out
 rw [List.drop_eq_nil_of_le (by omega), List.foldl_nil] at hx
 have HX9 := Za hx
 clear hx
 go_wp2_with fail
 go_ret
 exact ⟨_, rfl, by rw [← HX9.out]; exact HO.out.base hbs.out, step HB.out HBR.out⟩
end Go.Proofs.YtgdmcmicfoamlaaGreatDoor
