import Derived.Test.YtgdmcmicfoamlaaGreatDoorMixV
import Derived.Shelf.Strings.SlTrimAscii
set_option linter.unusedVariables false
set_option linter.unusedSimpArgs false
set_option maxHeartbeats 8000000
set_option maxRecDepth 100000
namespace Go.Proofs.YtgdmcmicfoamlaaGreatDoor
open Go.RowKit
def Zv6 : ByteArray := ⟨Zfr.toArray⟩
theorem Ztl (s : ByteArray) (w : World) (hs : s.size ≤ 9223372036854775807) :
 Calls Tryz.prog 148 #[.string s, .string ⟨#[97, 98, 99, 100, 101, 102, 103, 104, 105, 106, 107, 108, 109, 110, 111, 112, 113, 114, 115, 116, 117, 118, 119, 120, 121, 122]⟩] w fun e w' => e = .returned (.string ⟨(Lib.trimS s.data.toList Zfr).toArray⟩) ∧ Below w.heap.size w w' :=
 Any.strings_Trim_laid Tryz.lays160 (by kernel_rfl) s Zv6 w hs (by decide) (ascii_of_all (by decide))
def Je (s : ByteArray) : List ByteArray := Lib.splitB ⟨#[32]⟩ 0 (Lib.countB s ⟨#[32]⟩) s
theorem Zfn (s : ByteArray) : (Je s).map (·.data.toList) = Zca [] s.data.toList := Zre s
theorem Zcz (s : ByteArray) : (Je s).length = Lib.countB s ⟨#[32]⟩ + 1 := Lib.splitB_all ⟨#[32]⟩ (by decide) 0 _ s rfl
theorem Zio (s : ByteArray) (j : Nat) (h : j < (Je s).length) : (Je s)[j].size ≤ s.size := by
 have hm : (Je s)[j].data.toList ∈ Zca [] s.data.toList := by
  rw [← Zfn]
  exact List.mem_map.2 ⟨_, List.getElem_mem h, rfl⟩
 have := Zmj _ _ _ hm
 simp only [List.length_nil, Array.length_toList] at this
 have e : ∀ x : ByteArray, x.size = x.data.size := fun _ => rfl
 rw [e, e]; omega
theorem Zlv (s : ByteArray) (w : World) (hs : s.size ≤ 1048576) (hw : Zb9 w) :
 Calls Tryz.prog 147 #[.string s, .string ⟨#[32]⟩] w fun e w' => e = .returned (.slice (some ⟨w.heap.size, 0, none⟩) (Je s).length (Je s).length) ∧ w' = w.alloc (.cells ((Je s).map Value.string).toArray 9) := by
 obtain ⟨m, hm⟩ := hw
 have h := Any.strings_Split Tryz.lays146 (by kernel_rfl) s ⟨#[32]⟩ m w (by omega) hm (by decide)
 rw [Zcz]
 exact h
theorem Zez (s : ByteArray) (w : World) (hs : s.size ≤ 1048576) (hw : Zb9 w) :
 Calls Tryz.prog 85 #[.string s] w fun e w' => e = .returned (.bool (Zcj s)) ∧ Below w.heap.size w w' := by
 have hS := Zlv s w hs hw
 have hlen := Zcz s
 have hcl := Lib.countB_le ⟨#[32]⟩ (by decide) s.size s (Nat.le_refl _)
 have hwl : (Je s).length ≤ 1048577 := by omega
 clear hlen hcl
 have hemp : s.toList.isEmpty = s.data.toList.isEmpty := by rw [ByteArray.toList_eq]
 by_cases he : s.toList.isEmpty = true
 ·
  have hfin : Zcj s = true := by unfold Zcj Zhx; rw [← hemp, he]; rfl
  rw [hfin]
  clear hS hemp hfin
  go_enter Tryz.func85, Tryz.ntmps85
  go_wp2
  go_ret
  exact ⟨rfl, Below.refl _ _⟩
 have he' : s.toList.isEmpty = false := by simpa using he
 have HE := Za (hemp.symm.trans he')
 have HF : Hid (Zcj s = ((Je s).all (fun x => Za5 x.data.toList) && decide (s.size ≤ 30))) := by
  show Zcj s = _
  unfold Zcj Zhx
  rw [HE.out, Bool.false_or, ← Zfn, List.all_map]
  rfl
 clear hemp he
 have hws : ∀ j (h : j < (Je s).length), (Je s)[j].size ≤ 9223372036854775807 := fun j h => by have := Zio s j h; omega
 go_enter Tryz.func85, Tryz.ntmps85
 go_wp2_with (first | (go_at_call 147; refine hS.mono ?_; rintro e w' ⟨rfl, rfl⟩))
 go_loopg [4, 10] (Je s).length (fun gg _ s10 wr => ∃ kk : Nat, kk ≤ (Je s).length ∧ (Je s).length - kk ≤ gg ∧ s10 = .int .i64 kk ∧ Aside (Below (w.heap.size + 1) (w.alloc (.cells ((Je s).map Value.string).toArray 9)) wr) ∧ Aside (∀ j (h : j < (Je s).length), j < kk → Za5 (Je s)[j].data.toList = true))
 case atStart => exact ⟨0, Nat.zero_le _, by omega, rfl, Below.refl _ _, fun j _ hj => absurd hj (Nat.not_lt_zero _)⟩
 obtain ⟨kk, hkk, hg, rfl, BW, AA⟩ := hrel
 have hBW : Below w.heap.size w wr := (Zc (Below.refl _ w) _).trans (BW.out.mono (by omega))
 by_cases hlt : kk < (Je s).length
 ·
  have hcell : wr.cell? ⟨w.heap.size, kk, none⟩ = some (.string (Je s)[kk]) := by
   rw [BW.out.cell (by simp)]
   exact Zj _ _ _ _ _ _ (by simp [hlt])
  have hltz : (kk : Int) < ((Je s).length : Int) := by omega
  have hT := Ztl (Je s)[kk] wr (hws kk hlt)
  have hw1 : (Je s)[kk].toList = (Je s)[kk].data.toList := ByteArray.toList_eq _
  have hno : Za5 (Je s)[kk].data.toList = false → Zcj s = false := fun h => by
   rw [HF.out, Bool.and_eq_false_iff]
   left
   rw [List.all_eq_false]
   exact ⟨_, List.getElem_mem hlt, by simp [h]⟩
  have HNO := Za hno
  clear hno hS hws
  by_cases h1 : (Je s)[kk].toList.isEmpty = true
  · have h2 := Za (HNO.out (by rw [Za5, ← hw1, h1]; rfl))
    clear hw1
    go_wp2
    go_ret
    exact ⟨by rw [h2.out]; rfl, hBW⟩
  have h1' : (Je s)[kk].toList.isEmpty = false := by simpa using h1
  by_cases h3 : Lib.trimS (Je s)[kk].data.toList Zfr = []
  ·
   have h4 : Hid (Za5 (Je s)[kk].data.toList = true) := by
    show Za5 _ = true
    rw [Za5, ← hw1, h1', hw1, (Znl _).1 h3]; rfl
   rw [h3] at hT
   clear hw1 h3 h1
   go_wp2_with (go_at_call 148; refine hT.mono ?_; rintro e w' ⟨rfl, hb⟩)
   go_roundg ((Je s).length - (kk + 1))
   case measure => omega
   refine ⟨kk + 1, by omega, by omega, by go_num, BW.out.trans (hb.mono (by have := BW.out.size; simpa using this)), (show Aside _ from fun j hj hjk => ?_)⟩
   by_cases e : j = kk
   · subst e; exact h4.out
   exact AA.out j hj (by omega)
  have h4 : Za5 (Je s)[kk].data.toList = false := by
   rw [Za5, ← hw1, h1', hw1]
   have : ¬ (Je s)[kk].data.toList.all Zgk = true := fun h => h3 ((Znl _).2 h)
   simpa using this
  have h5 := Za (HNO.out h4)
  have h3b : (Lib.trimS (Je s)[kk].data.toList Zfr).isEmpty = false := by simpa using h3
  clear hw1 h1 h4 h3
  go_wp2_with (go_at_call 148; refine hT.mono ?_; rintro e w' ⟨rfl, hb⟩)
  go_ret
  exact ⟨by rw [h5.out]; rfl, step hBW hb⟩
 have hltz : ¬ (kk : Int) < ((Je s).length : Int) := by omega
 have hfin : Zcj s = decide ((s.size : Int) ≤ 30) := by
  rw [HF.out]
  have : (Je s).all (fun x => Za5 x.data.toList) = true := by
   rw [List.all_eq_true]
   intro x hx
   obtain ⟨i, hi, rfl⟩ := List.getElem_of_mem hx
   exact AA.out i hi (by omega)
  rw [this, Bool.true_and]
  exact decide_eq_decide.2 (by omega)
 have HFIN := Za hfin
 clear hfin hS hws
 go_wp2
 go_ret
 exact ⟨by rw [HFIN.out]; rfl, hBW⟩
theorem Zbx (n lo hi : Int) (w : World) :
 Calls Tryz.prog 122 #[.int .i64 n, .int .i64 lo, .int .i64 hi] w fun e w' => e = .returned (.bool (inB n lo hi)) ∧ w = w' := by
 unfold inB
 by_cases h1 : lo ≤ n <;> by_cases h2 : n ≤ hi
 all_goals
  go_enter Tryz.func122, Tryz.ntmps122
  go_wp2
  go_ret
  exact ⟨by simp [h1, h2], rfl⟩
theorem Zuj (x : Yq) (w : World) :
 Calls Tryz.prog 151 #[.agg (Zes x).toArray] w fun e w' => e = .returned (.bool (Zck x)) ∧ Below w.heap.size w w' := by
 obtain ⟨k, n⟩ := x
 show Calls _ _ #[.agg #[.int .i64 k, .int .i64 n]] _ _
 go_enter Tryz.func151, Tryz.ntmps151
 go_wp2_with (go_at_call 122; refine (Zbx _ _ _ _).mono ?_; rintro e w' ⟨rfl, rfl⟩)
 all_goals (go_ret; exact ⟨by simp_all [Zck], Zc (Below.refl _ _) _⟩)
theorem Znz (w : World) : Zi5 Tryz.prog 150 #[] Zbz agg (fun x => !Zck x) w := by
 rintro W x cs hb rfl
 show Calls _ _ #[.agg #[.int .i64 x.k, .int .i64 x.n]] _ fun e w' => e = .returned (.bool (!Zck x)) ∧ _
 go_enter Tryz.func150, Tryz.ntmps150
 go_wp2_with (go_at_call 151; refine (Zuj x _).mono ?_; rintro e w' ⟨rfl, hb'⟩)
 go_ret
 exact ⟨rfl, step (Zc (Below.refl _ _) _) hb'⟩
theorem Zo4 (b : Brd) (w : World) :
 Calls Tryz.prog 237 #[.agg #[.int .i64 b.s, .int .i64 b.w]] w fun e w' => e = .returned (.bool (Zsz b)) ∧ Below w.heap.size w w' := by
 go_enter Tryz.func237, Tryz.ntmps237
 go_wp2_with (go_at_call 122; refine (Zbx _ _ _ _).mono ?_; rintro e w' ⟨rfl, rfl⟩)
 go_ret
 exact ⟨rfl, Zc (Below.refl _ _) _⟩
theorem Zpt (b : Brd) (w : World) :
 Calls Tryz.prog 203 #[.agg #[.int .i64 b.s, .int .i64 b.w]] w fun e w' => e = .returned (.bool (Zh0 b)) ∧ Below w.heap.size w w' := by
 go_enter Tryz.func203, Tryz.ntmps203
 go_wp2_with (first | (go_at_call 122; refine (Zbx _ _ _ _).mono ?_; rintro e w' ⟨rfl, rfl⟩) | (go_at_call 237; refine (Zo4 b _).mono ?_; rintro e w' ⟨rfl, hb⟩; obtain ⟨hc, hf, hz⟩ := Zvy hb))
 all_goals (go_ret; exact ⟨by simp_all [Zh0], step (Zc (Below.refl _ _) _) hb⟩)
theorem Zn0 (x : Qi) (w : World) (hs : x.t.size ≤ 1048576) (hw : Zb9 w) :
 Calls Tryz.prog 153 #[.agg (Qv x).toArray] w fun e w' => e = .returned (.bool (Zax x)) ∧ Below w.heap.size w w' := by
 show Calls _ _ #[.agg #[.string x.t, .int .i64 x.c, .int .i64 x.r, .int .i64 x.top.s, .int .i64 x.top.w, .int .i64 x.right.s, .int .i64 x.right.w, .int .i64 x.bot.s, .int .i64 x.bot.w, .int .i64 x.left.s, .int .i64 x.left.w]] _ _
 have hw1 := fun o => hw.below (Zc (Below.refl _ w) o)
 go_enter Tryz.func153, Tryz.ntmps153
 go_wp2_with (first | (go_at_call 122; refine (Zbx _ _ _ _).mono ?_; rintro e w' ⟨rfl, rfl⟩) | (go_at_call 85; refine (Zez _ _ hs (hw1 _)).mono ?_; rintro e w' ⟨rfl, hb⟩; obtain ⟨H, hc, hf, hz, hn, h0⟩ := Zju (Below.refl _ _) hb) | (go_at_call 203; refine (Zpt ⟨_, _⟩ _).mono ?_; rintro e w' ⟨rfl, hb⟩; obtain ⟨H, hc, hf, hz, hn, h0⟩ := Zju H hb))
 all_goals (go_ret; exact ⟨by simp_all [Zax], step (Zc (Below.refl _ _) _) H⟩)
theorem Znc (w : World) (hw : Zb9 w) : Zi5 Tryz.prog 152 #[] Zq6 agg (fun x => !Zax x) w := by
 rintro W x cs hb ⟨rfl, hs⟩
 have hC := fun o => Zn0 x (W.alloc o) hs ((hw.below hb).below (Zc (Below.refl _ _) o))
 show Calls _ _ #[.agg #[.string x.t, .int .i64 x.c, .int .i64 x.r, .int .i64 x.top.s, .int .i64 x.top.w, .int .i64 x.right.s, .int .i64 x.right.w, .int .i64 x.bot.s, .int .i64 x.bot.w, .int .i64 x.left.s, .int .i64 x.left.w]] _ fun e w' => e = .returned (.bool (!Zax x)) ∧ _
 go_enter Tryz.func152, Tryz.ntmps152
 go_wp2_with (go_at_call 153; refine (hC _).mono ?_; rintro e w' ⟨rfl, hb'⟩)
 go_ret
 exact ⟨rfl, step (Zc (Below.refl _ _) _) hb'⟩
def Zdu (r : Jv) : Bool := decide ((r.cs.length : Int) ≤ 5) && r.cs.all Zax
theorem Zqu {α : Type} (p : α → Bool) (xs : List α) : (xs.any fun x => !p x) = !xs.all p := by
 induction xs with
 | nil => rfl
 | cons x xs ih => simp [List.any_cons, List.all_cons, ih]
theorem Zom (w : World) (hw : Zb9 w) (B : Nat) (hB : B < w.heap.size) (hc : w.cell? ⟨B, 0, none⟩ = some (.func (.func 152) #[] #[])) :
 Zi5 Tryz.prog 155 #[.pointer (some ⟨B, 0, none⟩)] Zbp agg (fun x => !Zdu x) w := by
 rintro W x cs hb ⟨v, rfl, A, c, rfl, hl, hr⟩
 have hcW : W.cell? ⟨B, 0, none⟩ = some (.func (.func 152) #[] #[]) := (hb.cell (p := ⟨B, 0, none⟩) hB).trans hc
 have hBW : B < W.heap.size := Nat.lt_of_lt_of_le hB hb.size
 have hne : B ≠ W.heap.size := by omega
 have eg : ∀ args w, (callFunc 152 args).run Tryz.prog w = .ok (.enter 152 args) w := enters_of Tryz.func152 (by kernel_rfl) rfl
 have hC := fun o => Znx Zq6 rfl (fun x => !Zax x) 152 #[] eg A c x.cs (W.alloc o) (Znc _ ((hw.below hb).below (Zc (Below.refl _ _) o))) (hr.below (Zc (Below.refl _ _) o))
 have hlen := hr.1
 have hfin : (!Zdu x) = if (5 : Int) < x.cs.length then true else !x.cs.all Zax := by
  unfold Zdu
  by_cases h : (5 : Int) < x.cs.length
  · rw [if_pos h]; have : ¬ (x.cs.length : Int) ≤ 5 := by omega
    simp [this]
  rw [if_neg h]; have : (x.cs.length : Int) ≤ 5 := by omega
  simp [this]
 show Calls _ _ #[.agg #[.slice A x.cs.length c, .bool x.wh], .pointer (some ⟨B, 0, none⟩)] _ fun e w' => e = .returned (.bool (!Zdu x)) ∧ _
 rw [hfin]
 clear hfin hr hw hc hb
 rw [Zqu] at hC
 generalize x.cs.all Zax = q at hC ⊢
 by_cases h : (5 : Int) < x.cs.length
 ·
  rw [if_pos h]
  go_enter Tryz.func155, Tryz.ntmps155
  go_wp2
  go_ret
  exact ⟨rfl, Zc (Below.refl _ _) _⟩
 rw [if_neg h]
 go_enter Tryz.func155, Tryz.ntmps155
 go_wp2_with (go_at_call 156; refine (hC _).mono ?_; rintro e w' ⟨rfl, hb'⟩)
 go_ret
 exact ⟨rfl, step (Zc (Below.refl _ _) _) hb'⟩
theorem Zj5 (t : Tbl) (A : Option Addr) (c : Nat) (A' : Option Addr) (c' : Nat) (w : World) (hw : Zb9 w) (hcols : Rd Zbz w A t.cols) (hrows : Rd Zbp w A' t.rows) :
 Calls Tryz.prog 86 #[.agg #[.slice A t.cols.length c, .int .i64 t.head, .int .i64 t.foot, .slice A' t.rows.length c', .int .i64 t.gap]] w fun e w' => e = .returned (.bool (Qn t)) ∧ Below w.heap.size w w' := by
 have e1 : ∀ args w, (callFunc 150 args).run Tryz.prog w = .ok (.enter 150 args) w := enters_of Tryz.func150 (by kernel_rfl) rfl
 have e3 : ∀ args w, (callFunc 155 args).run Tryz.prog w = .ok (.enter 155 args) w := enters_of Tryz.func155 (by kernel_rfl) rfl
 have hB1 := fun o => Zc (Below.refl _ w) o
 have hC1 := fun o => Zp4 Zbz rfl (fun x => !Zck x) 150 #[] e1 A c t.cols (w.alloc o) (Znz _) (hcols.below (hB1 o))
 have hC3 := fun (W : World) (hb : Below w.heap.size w W) (B : Nat) (hB : B < W.heap.size) (hc : W.cell? ⟨B, 0, none⟩ = some (.func (.func 152) #[] #[])) =>
  Zpk Zbp rfl (fun x => !Zdu x) 155 #[.pointer (some ⟨B, 0, none⟩)] e3 A' c' t.rows W (Zom W (hw.below hb) B hB hc) (hrows.below hb)
 have l1 := hcols.1
 have l2 := hrows.1
 have hfin : Qn t = (inB t.rows.length 1 8 && (decide ((t.cols.length : Int) ≤ 8) && (inB t.gap 0 3 && (inB t.head 0 t.rows.length && (inB t.foot 0 (t.rows.length - t.head) && (t.cols.all Zck && t.rows.all Zdu)))))) := rfl
 rw [hfin]
 clear hfin hcols hrows hw
 simp only [Zqu] at hC1 hC3
 generalize t.cols.all Zck = q1 at hC1 ⊢
 generalize t.rows.all Zdu = q3 at hC3 ⊢
 have hmf := @Zhu Tryz.prog
 by_cases h8 : (t.cols.length : Int) ≤ 8
 ·
  have h8n : ¬ (8 : Int) < t.cols.length := by omega
  by_cases hh : inB t.head 0 t.rows.length = true
  ·
   have hb0 : 0 ≤ t.head ∧ t.head ≤ t.rows.length := by simpa [inB] using hh
   obtain ⟨g0, g1⟩ := hb0
   go_enter Tryz.func86, Tryz.ntmps86
   go_wp2_with (first | (go_at_call 122; refine (Zbx _ _ _ _).mono ?_; rintro e w' ⟨rfl, rfl⟩) | (go_at_call 149; refine (hC1 _).mono ?_; rintro e w' ⟨rfl, hb⟩; obtain ⟨H, hc, hf, hz, hn, h0⟩ := Zju (Below.refl _ _) hb) | (go_at_call 154; refine (hC3 _ (Zc (step (Zc (Below.refl _ _) _) H) _) _ (by simp) (by simp)).mono ?_; rintro e w' ⟨rfl, hb3⟩))
   all_goals (go_ret; refine ⟨?_, by first | exact Zc (Below.refl _ _) _ | exact step (Zc (Below.refl _ _) _) H | exact step (Zc (step (Zc (Below.refl _ _) _) H) _) hb3⟩)
   all_goals first | (simp_all; done) | (rcases ‹(8 : Int) < t.cols.length ∨ _› with h | h <;> simp_all <;> (intros; omega))
  have hh' : inB t.head 0 t.rows.length = false := by simpa using hh
  go_enter Tryz.func86, Tryz.ntmps86
  go_wp2_with (first | (go_at_call 122; refine (Zbx _ _ _ _).mono ?_; rintro e w' ⟨rfl, rfl⟩))
  all_goals (go_ret; exact ⟨by simp_all, (Zc (Below.refl _ _) _)⟩)
 have h8' : (8 : Int) < t.cols.length := by omega
 go_enter Tryz.func86, Tryz.ntmps86
 go_wp2_with (first | (go_at_call 122; refine (Zbx _ _ _ _).mono ?_; rintro e w' ⟨rfl, rfl⟩))
 all_goals (go_ret; exact ⟨by simp_all <;> (intros; omega), (Zc (Below.refl _ _) _)⟩)
theorem Za1 (n lo hi : Int) (w : World) :
 Calls Tryz.prog 78 #[.int .i64 n, .int .i64 lo, .int .i64 hi] w fun e w' => e = .returned (.bool (inB n lo hi)) ∧ w = w' := by
 unfold inB
 by_cases h1 : lo ≤ n <;> by_cases h2 : n ≤ hi
 all_goals
  go_enter Tryz.func78, Tryz.ntmps78
  go_wp2
  go_ret
  exact ⟨by simp [h1, h2], rfl⟩
theorem Zgx (s : ByteArray) (w : World) (hs : s.size ≤ 1048576) :
 Calls Tryz.prog 145 #[.string s] w fun e w' => e = .returned (.bool (Zcj s)) ∧ w = w' := by
 have hsz : s.size = s.data.toList.length := Lib.size_eq s
 by_cases h30 : (30 : Int) < s.size
 ·
  have hn : Zcj s = false := by
   unfold Zcj Zhx
   have h1 : s.data.toList.isEmpty = false := by cases h : s.data.toList <;> simp_all
   have h2 : decide (s.data.toList.length ≤ 30) = false := by simp; omega
   rw [h1, h2]; simp
  clear hsz
  go_enter Tryz.func145, Tryz.ntmps145
  go_wp2
  go_ret
  exact ⟨by rw [hn]; rfl, rfl⟩
 have hle : s.data.toList.length ≤ 30 := by omega
 have HZ := Za hsz
 clear hsz
 go_enter Tryz.func145, Tryz.ntmps145
 go_wp2
 go_loopg [3] s.size (fun gg s3 wr => ∃ kk : Nat, kk ≤ s.size ∧ s.size - kk ≤ gg ∧ s3 = .int .i64 kk ∧ Aside (w = wr) ∧ Aside (Ze4 s.data.toList kk = Ze4 s.data.toList 0 ∧ (kk = s.size → 0 < kk → s.data.toList[kk - 1]? ≠ some 32)))
 case atStart => exact ⟨0, Nat.zero_le _, by omega, rfl, rfl, rfl, fun _ h => absurd h (Nat.lt_irrefl _)⟩
 obtain ⟨kk, hkk, hg, rfl, BW, AA⟩ := hrel
 by_cases hlt : kk < s.size
 ·
  have hltz : (kk : Int) < (s.size : Int) := by omega
  have hll : kk < s.data.toList.length := by have := HZ.out; omega
  have hget : s.data.toList[kk] = s[kk] := rfl
  have hget1 : s.data.toList[kk - 1]? = some (s[kk - 1]'(by omega)) := Lib.data_getElem? s (kk - 1) (by omega)
  have hne : s.data.toList ≠ [] := by intro h; rw [h] at hll; simp at hll
  have hx0 : Zcj s = Ze4 s.data.toList kk := by rw [AA.out.1]; exact (Zmd _ hle hne).trans (by rfl)
  have HX := Za hx0
  have eq32 : ∀ c : UInt8, ((c.toNat : Int) == 32) = decide (c = 32) := fun c => by
   rw [Bool.eq_iff_iff]; simp [← UInt8.toNat_inj]; omega
  by_cases hA : s[kk] = 32
  ·
   have hA' : ((s[kk].toNat : Int) == 32) = true := by rw [eq32]; simpa using hA
   have hA2 : ((s[kk].toNat : Int) != 32) = false := by rw [bne, hA']; rfl
   by_cases hbad : kk = 0 ∨ kk = s.size - 1 ∨ s[kk - 1] = 32
   ·
    have hno : Zcj s = false := by
     rw [hx0]
     refine Zs2 _ kk hll (hget.trans hA) ?_
     rcases hbad with h | h | h
     · exact .inl h
     · exact .inr (.inl (by have := HZ.out; omega))
     exact .inr (.inr (by rw [hget1, h]))
    have HNO := Za hno
    have HB := Za hbad
    have H32 := Za eq32
    clear hno hbad eq32 hA hget hget1 hne hx0
    go_wp2_with fail
    all_goals first | (go_ret; exact ⟨by rw [HNO.out]; rfl, BW.out⟩) | skip
    all_goals exfalso
    all_goals rcases HB.out with h | h | h
    all_goals first | omega | (simp [h] at *; done) | (simp_all; omega)
   have h1 : ¬ kk = 0 := fun h => hbad (.inl h)
   have h2 : ¬ (kk : Int) = (s.size : Int) - 1 := fun h => hbad (.inr (.inl (by omega)))
   have h3 : ((s[kk - 1].toNat : Int) == 32) = false := by
    rw [eq32]; simpa using fun h => hbad (.inr (.inr h))
   have hgood : Ze4 s.data.toList (kk + 1) = Ze4 s.data.toList kk := Zrx _ kk hll (hget.trans hA) h1 (by rw [hget1]; simpa using fun h => hbad (.inr (.inr h)))
   have h1b : ((kk : Int) == 0) = false := by simp; omega
   have h2b : ((kk : Int) == (s.size : Int) - 1) = false := by simp; omega
   have h4 : 1 ≤ (kk : Int) := by omega
   have h5 : (kk : Int) - 1 < s.size := by omega
   have HG := Za hgood
   clear hgood hbad eq32 hA hget hget1 hne hx0
   go_wp2_with fail
   go_roundg (s.size - (kk + 1))
   case measure => omega
   refine ⟨kk + 1, by omega, by omega, by go_num, BW, (show Aside _ from ⟨HG.out.trans AA.out.1, fun h _ => by omega⟩)⟩
  ·
   have hA' : ((s[kk].toNat : Int) == 32) = false := by rw [eq32]; simpa using hA
   have hA2 : ((s[kk].toNat : Int) != 32) = true := by rw [bne, hA']; rfl
   have h256 : (s[kk].toNat : Int) ≤ 255 := by have := s[kk].toNat_lt; omega
   have hlow : ∀ c : UInt8, inB (c.toNat : Int) 97 122 = Zgk c := fun c => by
    unfold inB Zgk
    rw [Bool.eq_iff_iff]; simp [UInt8.le_iff_toNat_le]; omega
   have hl := hlow s[kk]
   have hstep := Zs8 _ kk hll (by rw [hget]; exact hA)
   rw [hget] at hstep
   have hnx : kk + 1 = s.size → 0 < kk + 1 → s.data.toList[kk + 1 - 1]? ≠ some 32 := fun _ _ => by
    rw [show kk + 1 - 1 = kk from rfl, Lib.data_getElem? s kk hlt]; simpa using hA
   have HN := Za hnx
   have HS := Za hstep
   clear hnx hstep hlow eq32 hA hget hget1 hne hx0
   cases hb : Zgk s[kk] with
   | true =>
    rw [hb] at hl
    have HB := Za hb; clear hb
    go_wp2_with (go_at_call 78; refine (Za1 _ _ _ _).mono ?_; rintro e w' ⟨rfl, rfl⟩)
    go_roundg (s.size - (kk + 1))
    case measure => omega
    refine ⟨kk + 1, by omega, by omega, by go_num, BW, (show Aside _ from ⟨?_, HN.out⟩)⟩
    rw [← AA.out.1, HS.out, HB.out, Bool.true_and]
   | false =>
    rw [hb] at hl
    have HB := Za hb; clear hb
    go_wp2_with (go_at_call 78; refine (Za1 _ _ _ _).mono ?_; rintro e w' ⟨rfl, rfl⟩)
    go_ret
    exact ⟨by rw [HX.out, HS.out, HB.out]; rfl, BW.out⟩
 have hltz : ¬ (kk : Int) < (s.size : Int) := by omega
 have hfin : Zcj s = true := by
  by_cases h0 : s.data.toList = []
  · unfold Zcj Zhx; rw [h0]; rfl
  have hlen : s.data.toList.length = kk := by have := HZ.out; omega
  have h1 : Zcj s = Ze4 s.data.toList 0 := (Zmd _ hle h0).trans rfl
  have hp : 0 < s.data.toList.length := List.length_pos_iff.2 h0
  rw [h1, ← AA.out.1, ← hlen]
  exact Zs5 _ hp (by rw [hlen]; exact AA.out.2 (by omega) (by omega))
 have HFIN := Za hfin
 clear hfin
 go_wp2_with fail
 go_ret
 exact ⟨by rw [HFIN.out]; rfl, BW.out⟩
theorem Zp9 (x : Yq) (w : World) :
 Calls Tryz.prog 83 #[.agg #[.int .i64 x.k, .int .i64 x.n]] w fun e w' => e = .returned (.bool (Zck x)) ∧ Below w.heap.size w w' := by
 go_enter Tryz.func83, Tryz.ntmps83
 go_wp2_with (go_at_call 78; refine (Za1 _ _ _ _).mono ?_; rintro e w' ⟨rfl, rfl⟩)
 all_goals (go_ret; exact ⟨by simp_all [Zck], Zc (Below.refl _ _) _⟩)
theorem Zpy (b : Brd) (w : World) :
 Calls Tryz.prog 146 #[.agg #[.int .i64 b.s, .int .i64 b.w]] w fun e w' => e = .returned (.bool (Zh0 b)) ∧ Below w.heap.size w w' := by
 have hfin : Zh0 b = if b.s = 0 ∨ b.s = 4 then b.w == 0 else inB b.s 1 3 && inB b.w 1 3 := by
  unfold Zh0 Zsz
  by_cases h0 : b.s = 0
  · simp [h0, inB]
  by_cases h4 : b.s = 4
  · simp [h4, inB]
  cases h : inB b.s 1 3 <;> simp [h0, h4]
 rw [hfin]
 clear hfin
 by_cases h0 : b.s = 0
 ·
  rw [if_pos (.inl h0)]
  have H := Za h0
  have h0b : (b.s == 0) = true := by simpa using h0
  clear h0
  go_enter Tryz.func146, Tryz.ntmps146
  go_wp2_with fail
  all_goals (go_ret; exact ⟨by simp_all, Zc (Below.refl _ _) _⟩)
 by_cases h4 : b.s = 4
 ·
  rw [if_pos (.inr h4)]
  have H := Za h4
  have h0b : (b.s == 0) = false := by simpa using h0
  have h4b : (b.s == 4) = true := by simpa using h4
  clear h4
  go_enter Tryz.func146, Tryz.ntmps146
  go_wp2_with fail
  all_goals (go_ret; exact ⟨by simp_all, Zc (Below.refl _ _) _⟩)
 rw [if_neg (by simp [h0, h4])]
 have h0b : (b.s == 0) = false := by simpa using h0
 have h4b : (b.s == 4) = false := by simpa using h4
 go_enter Tryz.func146, Tryz.ntmps146
 go_wp2_with (go_at_call 78; refine (Za1 _ _ _ _).mono ?_; rintro e w' ⟨rfl, rfl⟩)
 all_goals (go_ret; exact ⟨by simp_all, Zc (Below.refl _ _) _⟩)
theorem Zof (x : Qi) (w : World) (hs : x.t.size ≤ 1048576) :
 Calls Tryz.prog 84 #[.agg (Qv x).toArray] w fun e w' => e = .returned (.bool (Zax x)) ∧ Below w.heap.size w w' := by
 show Calls _ _ #[.agg #[.string x.t, .int .i64 x.c, .int .i64 x.r, .int .i64 x.top.s, .int .i64 x.top.w, .int .i64 x.right.s, .int .i64 x.right.w, .int .i64 x.bot.s, .int .i64 x.bot.w, .int .i64 x.left.s, .int .i64 x.left.w]] _ _
 have H := Zf (w.alloc (.cells #[.string x.t, .int .i64 x.c, .int .i64 x.r, .int .i64 x.top.s, .int .i64 x.top.w, .int .i64 x.right.s, .int .i64 x.right.w, .int .i64 x.bot.s, .int .i64 x.bot.w, .int .i64 x.left.s, .int .i64 x.left.w] 105))
 go_enter Tryz.func84, Tryz.ntmps84
 go_wp2_with (first | (go_at_call 78; refine (Za1 _ _ _ _).mono ?_; rintro e w' ⟨rfl, rfl⟩) | (go_at_call 145; refine (Zgx _ _ hs).mono ?_; rintro e w' ⟨rfl, rfl⟩) | (go_at_call 146; refine (Zpy ⟨_, _⟩ _).mono ?_; rintro e w' ⟨rfl, hb⟩; obtain ⟨H, hc, hf, hz, hn, h0⟩ := Zju H hb))
 all_goals (go_ret; refine ⟨?_, step (Zc (Below.refl _ _) _) H⟩)
 all_goals (clear hs; simp_all [Zax])
theorem Zpa {α : Type} (p : α → Bool) (xs : List α) (h : ∀ j (h : j < xs.length), p xs[j] = true) : xs.all p = true := by
 rw [List.all_eq_true]; intro x hx
 obtain ⟨i, hi, rfl⟩ := List.getElem_of_mem hx
 exact h i hi
theorem Zmm {α : Type} (p : α → Bool) (xs : List α) (j : Nat) (h : j < xs.length) (hp : p xs[j] = false) : xs.all p = false := by
 rw [List.all_eq_false]; exact ⟨_, List.getElem_mem h, by simp [hp]⟩
theorem Zb0 (t : Tbl) (A : Option Addr) (c : Nat) (A' : Option Addr) (c' : Nat) (w : World) (hcols : Rd Zbz w A t.cols) (hrows : Rd Zbp w A' t.rows) :
 Calls Tryz.prog 26 #[.agg #[.slice A t.cols.length c, .int .i64 t.head, .int .i64 t.foot, .slice A' t.rows.length c', .int .i64 t.gap]] w fun e w' => e = .returned (.bool (Qn t)) ∧ Below w.heap.size w w' := by
 have l1 := hcols.1
 have l2 := hrows.1
 have HF : Hid (Qn t = (inB t.rows.length 1 8 && (decide ((t.cols.length : Int) ≤ 8) && (inB t.gap 0 3 && (inB t.head 0 t.rows.length && (inB t.foot 0 (t.rows.length - t.head) && (t.cols.all Zck && t.rows.all Zdu))))))) := rfl
 by_cases hall : inB t.rows.length 1 8 = true ∧ ¬ (8 : Int) < t.cols.length ∧ inB t.head 0 t.rows.length = true ∧ inB t.foot 0 (t.rows.length - t.head) = true ∧ inB t.gap 0 3 = true
 ·
  obtain ⟨q1, q2, q3, q4, q5⟩ := hall
  have HF2 : Hid (Qn t = (t.cols.all Zck && t.rows.all Zdu)) := by
   show Qn t = _
   rw [HF.out, q1, q3, q4, q5, show decide ((t.cols.length : Int) ≤ 8) = true from decide_eq_true (by omega)]; rfl
  have hb0 : 0 ≤ t.head ∧ t.head ≤ t.rows.length := by simpa [inB] using q3
  obtain ⟨g0, g1⟩ := hb0
  go_enter Tryz.func26, Tryz.ntmps26
  go_wp2_with (first | (go_at_call 78; refine (Za1 _ _ _ _).mono ?_; rintro e w' ⟨rfl, rfl⟩))
  go_loopg [3] t.cols.length (fun gg s3 wr => ∃ kk : Nat, kk ≤ t.cols.length ∧ t.cols.length - kk ≤ gg ∧ s3 = .int .i64 kk ∧ Aside (Below (w.alloc (.cells #[.slice A t.cols.length c, .int .i64 t.head, .int .i64 t.foot, .slice A' t.rows.length c', .int .i64 t.gap] 26)).heap.size (w.alloc (.cells #[.slice A t.cols.length c, .int .i64 t.head, .int .i64 t.foot, .slice A' t.rows.length c', .int .i64 t.gap] 26)) wr) ∧ Aside (∀ j (h : j < t.cols.length), j < kk → Zck t.cols[j] = true))
  case atStart => exact ⟨0, Nat.zero_le _, by omega, rfl, Below.refl _ _, fun j _ hj => absurd hj (Nat.not_lt_zero _)⟩
  obtain ⟨kk, hkk, hg, rfl, BW, AA⟩ := hrel
  obtain ⟨H, hc, hf, hz, hn, h0⟩ := Zju BW.out (Zf _)
  by_cases hlt : kk < t.cols.length
  ·
   have hltz : (kk : Int) < (t.cols.length : Int) := by omega
   obtain ⟨b, o, c0, c1, rfl, hblt, hK, e0, e1⟩ := hcols.at2 rfl (Below.refl _ _) kk hlt
   have hK' : [c0, c1] = [.int .i64 t.cols[kk].k, .int .i64 t.cols[kk].n] := hK
   simp only [List.cons.injEq, and_true] at hK'
   obtain ⟨rfl, rfl⟩ := hK'
   have hb1 : b < w.heap.size + 1 := by omega
   have hb2 : ¬ b = w.heap.size := by omega
   have hC := Zp9 t.cols[kk] wr
   clear hK hcols hrows H
   cases hq : Zck t.cols[kk] with
   | true =>
    rw [hq] at hC
    have Hq := Za hq; clear hq
    go_wp2_with (go_at_call 83; refine hC.mono ?_; rintro e w' ⟨rfl, hb⟩)
    go_roundg (t.cols.length - (kk + 1))
    case measure => omega
    refine ⟨kk + 1, by omega, by omega, by go_num, step BW.out hb, (show Aside _ from fun j hj hjk => ?_)⟩
    by_cases e : j = kk
    · subst e; exact Hq.out
    exact AA.out j hj (by omega)
   | false =>
    rw [hq] at hC
    have hno : Qn t = false := by rw [HF2.out, Zmm _ _ kk hlt hq]; rfl
    have Hno := Za hno; clear hno hq
    go_wp2_with (go_at_call 83; refine hC.mono ?_; rintro e w' ⟨rfl, hb⟩)
    go_ret
    exact ⟨by rw [Hno.out]; rfl, step (step (Zc (Zf _) _) BW.out) hb⟩
  have hltz : ¬ (kk : Int) < (t.cols.length : Int) := by omega
  have HF3 : Hid (Qn t = t.rows.all Zdu) := by
   show Qn t = _
   rw [HF2.out, Zpa _ _ (fun j hj => AA.out j hj (by omega))]; rfl
  clear HF2 AA HF hcols
  go_wp2_with fail
  go_loopg [4, 5] t.rows.length (fun gg s4 s5 wr => ∃ kk : Nat, kk ≤ t.rows.length ∧ t.rows.length - kk ≤ gg ∧ s4 = .int .i64 kk ∧ Aside (Below (w.alloc (.cells #[.slice A t.cols.length c, .int .i64 t.head, .int .i64 t.foot, .slice A' t.rows.length c', .int .i64 t.gap] 26)).heap.size (w.alloc (.cells #[.slice A t.cols.length c, .int .i64 t.head, .int .i64 t.foot, .slice A' t.rows.length c', .int .i64 t.gap] 26)) wr) ∧ Aside (∀ j (h : j < t.rows.length), j < kk → Zdu t.rows[j] = true))
  case atStart => exact ⟨0, Nat.zero_le _, by omega, rfl, BW, fun j _ hj => absurd hj (Nat.not_lt_zero _)⟩
  obtain ⟨k2, hk2, hg2, rfl, BW2, AA2⟩ := hrel
  obtain ⟨H, hc, hf, hz, hn, h0⟩ := Zju BW2.out (Zf _)
  obtain ⟨wo, rfl⟩ : ∃ wo : World, wo = wr := ⟨_, rfl⟩
  by_cases hlt2 : k2 < t.rows.length
  ·
   have hltz2 : (k2 : Int) < (t.rows.length : Int) := by omega
   obtain ⟨b, o, c0, c1, rfl, hblt, hK, e0, e1⟩ := hrows.at2 rfl (Below.refl _ _) k2 hlt2
   obtain ⟨v, hK', A1, n1, rfl, hl1, hr1⟩ := hK
   simp only [List.cons.injEq, and_true] at hK'
   obtain ⟨rfl, rfl⟩ := hK'
   have hb1 : b < w.heap.size + 1 := by omega
   have hb2 : ¬ b = w.heap.size := by omega
   have hlen := hr1.1
   have HN : Hid (Zdu t.rows[k2] = false → Qn t = false) := fun h => by rw [HF3.out, Zmm _ _ k2 hlt2 h]
   have HRB : Hid (∀ q, t.rows[k2].cs.all Zax = q → ¬ (5 : Int) < t.rows[k2].cs.length → Zdu t.rows[k2] = q) := fun q h h5 => by
    unfold Zdu; rw [h, decide_eq_true (by omega : (t.rows[k2].cs.length : Int) ≤ 5)]; rfl
   clear H HF3 hrows
   by_cases h5 : (5 : Int) < t.rows[k2].cs.length
   · have hno := HN.out (by unfold Zdu; rw [decide_eq_false (by omega)]; rfl)
     have Hno := Za hno; clear hno
     go_wp2_with fail
     go_ret
     exact ⟨by rw [Hno.out]; rfl, step (Zc (Zf _) _) BW2.out⟩
   go_wp2_with fail
   go_loopg [5] t.rows[k2].cs.length (fun gg s5 wr => ∃ k3 : Nat, k3 ≤ t.rows[k2].cs.length ∧ t.rows[k2].cs.length - k3 ≤ gg ∧ s5 = .int .i64 k3 ∧ Aside (Below (w.alloc (.cells #[.slice A t.cols.length c, .int .i64 t.head, .int .i64 t.foot, .slice (some ⟨b, o, none⟩) t.rows.length c', .int .i64 t.gap] 26)).heap.size (w.alloc (.cells #[.slice A t.cols.length c, .int .i64 t.head, .int .i64 t.foot, .slice (some ⟨b, o, none⟩) t.rows.length c', .int .i64 t.gap] 26)) wr) ∧ Aside (∀ j (h : j < t.rows[k2].cs.length), j < k3 → Zax t.rows[k2].cs[j] = true))
   case atStart => exact ⟨0, Nat.zero_le _, by omega, rfl, BW2, fun j _ hj => absurd hj (Nat.not_lt_zero _)⟩
   clear hc hf hz hn h0
   obtain ⟨k3, hk3, hg3, rfl, BW3, AA3⟩ := hrel
   obtain ⟨H, hc, hf, hz, hn, h0⟩ := Zju BW3.out (Zf _)
   clear H
   by_cases hlt3 : k3 < t.rows[k2].cs.length
   ·
    have hltz3 : (k3 : Int) < (t.rows[k2].cs.length : Int) := by omega
    obtain ⟨b3, o3, d0, d1, d2, d3, d4, d5, d6, d7, d8, d9, d10, rfl, hblt3, hK3, f0, f1, f2, f3, f4, f5, f6, f7, f8, f9, f10⟩ := hr1.at11 rfl (Below.refl _ _) k3 hlt3
    have hC := Zof t.rows[k2].cs[k3] wr hK3.2
    have hK4 := hK3.1
    rw [← hK4] at hC
    have hb3 : b3 < w.heap.size + 1 := by omega
    have hb4 : ¬ b3 = w.heap.size := by omega
    clear hK3 hK4 hr1
    cases hq : Zax t.rows[k2].cs[k3] with
    | true =>
     rw [hq] at hC
     have Hq := Za hq; clear hq
     go_wp2_with (go_at_call 84; refine hC.mono ?_; rintro e w' ⟨rfl, hb⟩)
     go_roundg (t.rows[k2].cs.length - (k3 + 1))
     case measure => omega
     refine ⟨k3 + 1, by omega, by omega, by go_num, step BW3.out hb, (show Aside _ from fun j hj hjk => ?_)⟩
     by_cases e : j = k3
     · subst e; exact Hq.out
     exact AA3.out j hj (by omega)
    | false =>
     rw [hq] at hC
     have hno := HN.out (HRB.out false (Zmm _ _ k3 hlt3 hq) h5)
     have Hno := Za hno; clear hno hq
     go_wp2_with (go_at_call 84; refine hC.mono ?_; rintro e w' ⟨rfl, hb⟩)
     go_ret
     exact ⟨by rw [Hno.out]; rfl, step (step (Zc (Zf _) _) BW3.out) hb⟩
   have hltz3 : ¬ (k3 : Int) < (t.rows[k2].cs.length : Int) := by omega
   have Hrow := Za (HRB.out true (Zpa _ _ (fun j hj => AA3.out j hj (by omega))) h5)
   clear hr1
   go_wp2_with fail
   go_roundg (t.rows.length - (k2 + 1))
   case measure => omega
   refine ⟨k2 + 1, by omega, by omega, by go_num, BW3, (show Aside _ from fun j hj hjk => ?_)⟩
   by_cases e : j = k2
   · subst e; exact Hrow.out
   exact AA2.out j hj (by omega)
  have hltz2 : ¬ (k2 : Int) < (t.rows.length : Int) := by omega
  have hyes : Qn t = true := by rw [HF3.out, Zpa _ _ (fun j hj => AA2.out j hj (by omega))]
  have Hyes := Za hyes; clear hyes
  clear hrows H
  go_wp2_with fail
  go_ret
  exact ⟨by rw [Hyes.out]; rfl, step (Zc (Zf _) _) BW2.out⟩
 have hno : Qn t = false := by
  rw [HF.out]
  cases h : (inB t.rows.length 1 8 && (decide ((t.cols.length : Int) ≤ 8) && (inB t.gap 0 3 && (inB t.head 0 t.rows.length && inB t.foot 0 (t.rows.length - t.head))))) with
  | true =>
   simp only [Bool.and_eq_true, decide_eq_true_eq] at h
   exact absurd ⟨h.1, by omega, h.2.2.2.1, h.2.2.2.2, h.2.2.1⟩ hall
  | false =>
   simp only [Bool.and_eq_false_iff] at h ⊢
   rcases h with h | h | h | h | h <;> simp [h]
 have Hno := Za hno
 have HA := Za hall
 clear hno HF hcols hrows hall
 by_cases q3 : inB t.head 0 t.rows.length = true
 ·
  have hb0 : 0 ≤ t.head ∧ t.head ≤ t.rows.length := by simpa [inB] using q3
  obtain ⟨g0, g1⟩ := hb0
  go_enter Tryz.func26, Tryz.ntmps26
  go_wp2_with (first | (go_at_call 78; refine (Za1 _ _ _ _).mono ?_; rintro e w' ⟨rfl, rfl⟩))
  all_goals first | (go_ret; exact ⟨by rw [Hno.out]; rfl, Zc (Zf _) _⟩) | skip
  all_goals (have h := HA.out; exfalso; clear Hno HA; simp_all)
 have q3' : inB t.head 0 t.rows.length = false := by simpa using q3
 go_enter Tryz.func26, Tryz.ntmps26
 go_wp2_with (first | (go_at_call 78; refine (Za1 _ _ _ _).mono ?_; rintro e w' ⟨rfl, rfl⟩))
 all_goals (go_ret; exact ⟨by rw [Hno.out]; rfl, Zc (Zf _) _⟩)
theorem Zh5 (t : Tbl) (k : Nat) (h : k < t.cols.length) : Yc t k = t.cols[k] := by
 unfold Yc; rw [if_pos ⟨by omega, by omega⟩]; simp [h]
theorem Zg2 (t : Tbl) (col : Int) (h : col < 0 ∨ t.cols.length ≤ col) : Yc t col = ⟨0, 0⟩ := by
 unfold Yc; rw [if_neg (by omega)]
theorem Zh9 (t : Tbl) (A : Option Addr) (c : Nat) (A' : Option Addr) (c' : Nat) (col : Int) (w : World) (hc : Rd Zbz w A t.cols) (hi : -9223372036854775808 ≤ col) (hi2 : col ≤ 9223372036854775807) :
 Calls Tryz.prog 160 #[.agg #[.slice A t.cols.length c, .int .i64 t.head, .int .i64 t.foot, .slice A' t.rows.length c', .int .i64 t.gap], .int .i64 col] w (fun e w' => e = .returned (.agg #[.int .i64 (Yc t col).k, .int .i64 (Yc t col).n]) ∧ Below w.heap.size w w') := by
 have hl := hc.1
 by_cases hin : 0 ≤ col ∧ col < t.cols.length
 ·
  obtain ⟨k, rfl⟩ := Int.eq_ofNat_of_zero_le hin.1
  have hlt : k < t.cols.length := by omega
  have hltz : (k : Int) < (t.cols.length : Int) := by omega
  obtain ⟨b, o, c0, c1, rfl, hblt, hK, e0, e1⟩ := hc.at2 rfl (Zf _) k hlt
  have q : [c0, c1] = [.int .i64 t.cols[k].k, .int .i64 t.cols[k].n] := hK
  simp only [List.cons.injEq, and_true] at q
  obtain ⟨rfl, rfl⟩ := q
  rw [Zh5 t k hlt]
  have hin1 : inB (k : Int) 0 ((t.cols.length : Int) - 1) = true := by simp [inB]; omega
  clear hK hc hin
  go_enter Tryz.func160, Tryz.ntmps160
  go_wp2_with (go_at_call 122; refine (Zbx _ _ _ _).mono ?_; rintro e w' ⟨rfl, rfl⟩)
  exact bodyPost_ret (v := .agg #[.int .i64 t.cols[k].k, .int .i64 t.cols[k].n]) (by simp [results, Tryz.results160, go_sem]) rfl ⟨rfl, Zc (Zc (Zf _) _) _⟩
 rw [Zg2 t col (by omega)]
 have hin1 : inB col 0 ((t.cols.length : Int) - 1) = false := by simp [inB]; omega
 clear hc hin
 go_enter Tryz.func160, Tryz.ntmps160
 go_wp2_with (go_at_call 122; refine (Zbx _ _ _ _).mono ?_; rintro e w' ⟨rfl, rfl⟩)
 exact bodyPost_ret (v := .agg #[.int .i64 0, .int .i64 0]) (by simp [results, Tryz.results160, go_sem]) rfl ⟨rfl, Zc (Zc (Zf _) _) _⟩
theorem Zd5 (t : Tbl) (A : Option Addr) (c : Nat) (A' : Option Addr) (c' : Nat) (col : Int) (w : World) (hc : Rd Zbz w A t.cols) (h0 : 0 ≤ col) :
 Calls Tryz.prog 192 #[.agg #[.slice A t.cols.length c, .int .i64 t.head, .int .i64 t.foot, .slice A' t.rows.length c', .int .i64 t.gap], .int .i64 col] w (fun e w' => e = .returned (.agg #[.int .i64 (Yc t col).k, .int .i64 (Yc t col).n]) ∧ Below w.heap.size w w') := by
 have hl := hc.1
 obtain ⟨k, rfl⟩ := Int.eq_ofNat_of_zero_le h0
 by_cases hlt : k < t.cols.length
 ·
  have hltz : (k : Int) < (t.cols.length : Int) := by omega
  obtain ⟨b, o, c0, c1, rfl, hblt, hK, e0, e1⟩ := hc.at2 rfl (Zf _) k hlt
  have q : [c0, c1] = [.int .i64 t.cols[k].k, .int .i64 t.cols[k].n] := hK
  simp only [List.cons.injEq, and_true] at q
  obtain ⟨rfl, rfl⟩ := q
  rw [Zh5 t k hlt]
  clear hK hc
  go_enter Tryz.func192, Tryz.ntmps192
  go_wp2_with fail
  exact bodyPost_ret (v := .agg #[.int .i64 t.cols[k].k, .int .i64 t.cols[k].n]) (by simp [results, Tryz.results192, go_sem]) rfl ⟨rfl, Zc (Zc (Zf _) _) _⟩
 rw [Zg2 t k (by omega)]
 have hltz : ¬ (k : Int) < (t.cols.length : Int) := by omega
 clear hc
 go_enter Tryz.func192, Tryz.ntmps192
 go_wp2_with fail
 exact bodyPost_ret (v := .agg #[.int .i64 0, .int .i64 0]) (by simp [results, Tryz.results192, go_sem]) rfl ⟨rfl, Zc (Zc (Zf _) _) _⟩
end Go.Proofs.YtgdmcmicfoamlaaGreatDoor
