import Derived.Test.YtgdmcmicfoamlaaGreatDoorMixWe
set_option linter.unusedVariables false
set_option linter.unusedSimpArgs false
set_option maxHeartbeats 4000000
set_option maxRecDepth 100000
namespace Go.Proofs.YtgdmcmicfoamlaaGreatDoor
open Go.RowKit
theorem Zk4 (s : ByteArray) (width : Int) (w : World) (hs : s.size ≤ 1048576) (hwd : 0 ≤ width ∧ width ≤ 1000000) :
 Calls Tryz.prog 135 #[.string s, .int .i64 width] w fun e w' => ∃ v, e = .returned v ∧ Yx w' w.heap.size v (Zch s width) ∧ Below w.heap.size w w' := by
 have hW := Zge s w hs
 have hlen := Zem s hs
 have hsz := fun x hx => Nat.le_trans (Zdf s x hx) hs
 unfold Zch
 generalize Jh s = ws at hW hlen hsz ⊢
 have HZ := Za hsz
 clear hsz
 go_enter Tryz.func135, Tryz.ntmps135
 go_wp2_with fail
 refine hW.mono ?_
 rintro _ w1 ⟨A, c, rfl, hr, hb⟩
 have HR := Za hr
 have HB := Za hb
 have hbs := Za hb.size
 have h0 : Yx (w1.alloc (.cells #[] 9)) w1.heap.size (.slice (some ⟨w1.heap.size, 0, none⟩) 0 0) [] := World.ownsRow_made w1 #[] 0 (Nat.le_refl _) (Nat.zero_le _) (by simp)
 have H0 := Za h0
 clear hr hb hW h0
 go_wp2_with fail
 go_loopg [6, 7, 8] ws.length (fun gg s6 s7 s8 wr => ∃ (i : Nat) (X : List ByteArray), s7 = .int .i64 i ∧ i ≤ ws.length ∧ ws.length - i ≤ gg ∧ X.length ≤ i ∧ Aside ((ws.drop i).foldl (Zel width) X = Zfd width ws) ∧ Aside (Yx wr w1.heap.size s6 X) ∧ Aside (∀ l ∈ X, l.size ≤ 1048576) ∧ Aside (Below w1.heap.size w1 wr))
 case atStart => exact ⟨0, [], rfl, Nat.zero_le _, by omega, Nat.zero_le _, (show Aside _ from rfl), H0.out, (show Aside _ from fun l hl => by cases hl), Zc (Zf _) _⟩
 obtain ⟨i, X, rfl, hin, hgg, hXl, HX, HO, HZX, HBR⟩ := hrel
 clear H0
 obtain ⟨A5, cc5, rfl⟩ := HO.out.form
 by_cases hlt : i < ws.length
 ·
  have hltz : (i : Int) < (ws.length : Int) := by omega
  obtain ⟨b, o, rfl, _, c1⟩ := Zif HR.out HBR.out i hlt
  have hx := HX.out
  rw [List.drop_eq_getElem_cons hlt, List.foldl_cons] at hx
  have hws := HZ.out _ (List.getElem_mem hlt)
  have hzn := Zln (width := width) (B := 1048576) (by omega) HZX.out hws
  have hln := Zjq width X ws[i]
  generalize ws[i] = x at c1 hx hws hzn hln
  have HXN := Za hx
  have HZN := Za hzn
  clear hx hzn HX
  have key : Zel width X x = X ++ [x] → Hid (((ws.drop (i + 1)).foldl (Zel width) (X ++ [x]) = Zfd width ws) ∧ ∀ l ∈ X ++ [x], l.size ≤ 1048576) := fun hq => by
   rw [← hq]; exact ⟨HXN.out, HZN.out⟩
  have hXn : X.length ≤ 3000000 := by omega
  rcases Zjb X with rfl | ⟨M, l, rfl⟩
  ·
   have HK := key rfl
   have HXL := Za hXn
   clear key HXN HZN HZX hln hXn
   go_wp2_with fail
   go_quiet (fail)
   have HO2 : Hid (Yx (wr.drewN nq) w1.heap.size (.slice A5 ([] : List ByteArray).length cc5) []) := Zco HO.out nq
   have HB2 : Hid (Below w1.heap.size w1 (wr.drewN nq)) := Zam HBR.out nq
   have c2 : (wr.drewN nq).cell? ⟨b, o + i, none⟩ = some (.string x) := c1
   clear HO HBR c1
   generalize wr.drewN nq = wq at c2 HO2 HB2 ⊢
   go_wp2_with (at_builtin; refine Ys rfl (.tmp 54) (.tmp 59) rfl w1.heap.size _ [] rfl (HO2.out.below (Zc (Zf _) _)) ⟨wq.heap.size, 0, none⟩ 1 x rfl (Zj _ _ _ _ 0 _ rfl) HXL.out (by have := HB2.out.size; simp; omega) ?_)
   intro v' w4 H1 H2 H3
   have HBN : Hid (Below w1.heap.size w1 w4) := (Zc HB2.out (.cells #[.string x] 9)).trans (Qg H2.out (by have := HB2.out.size; simp; omega) (fun b hb => (HO2.out.lt hb).1))
   clear H2 H3 HB2 HO2 HXL
   go_wp2_with fail
   go_roundg (ws.length - (i + 1))
   case measure => omega
   case rel => exact ⟨i + 1, _, by go_num, by omega, by omega, by simp, (show Aside _ from HK.out.1), H1.out, (show Aside _ from HK.out.2), HBN.out⟩
  obtain ⟨g, cc6, hA5, hbg, hgl⟩ := HO.out.at (by simp)
  injection hA5 with e0 _ e5
  subst e0
  subst e5
  have hcl := HO.out.cell M.length (by simp)
  have hfz := HO.out.frozen M.length
  have e1 : (M ++ [l])[M.length]'(by simp) = l := by simp
  rw [e1] at hcl
  have e2 : (M ++ [l]).length = M.length + 1 := by simp
  have HO2 : Hid (Yx wr w1.heap.size (.slice (some ⟨g, 0, none⟩) (M.length + 1) cc5) (M ++ [l])) := by have := HO.out; rw [e2] at this; exact this
  rw [e2] at hXl hXn hln ⊢
  have hlz := HZX.out l (by simp)
  have t1 : IntKind.i64.wrap (((M.length + 1 : Nat) : Int) - 1) = (M.length : Int) := by rw [IntKind.wrap_i64]; omega
  have hg1 : decide (((M.length + 1 : Nat) : Int) > 0) = true := decide_eq_true (by omega)
  have hg2 : (M.length : Int) < ((M.length + 1 : Nat) : Int) := by omega
  have t2 := IntWalk.i64_in ((l.size : Int) + 1) (by omega)
  have t3 := IntWalk.i64_in ((l.size : Int) + 1 + (x.size : Int)) (by omega)
  have hadd : Zel width (M ++ [l]) x = if (l.size : Int) + 1 + x.size ≤ width then M ++ [Zaw l x] else M ++ [l] ++ [x] := by
   unfold Zel
   rw [List.getLast?_append, List.getLast?_singleton]
   simp only [Option.some_or, List.dropLast_concat]
  have HBG := Za hbg
  by_cases hle : (l.size : Int) + 1 + x.size ≤ width
  ·
   rw [if_pos hle] at hadd
   have HK : Hid (((ws.drop (i + 1)).foldl (Zel width) (M ++ [Zaw l x]) = Zfd width ws) ∧ ∀ y ∈ M ++ [Zaw l x], y.size ≤ 1048576) := by rw [← hadd]; exact ⟨HXN.out, HZN.out⟩
   have hsa : l.size + (ByteArray.mk #[32]).size ≤ 9223372036854775807 := by show l.size + 1 ≤ _; omega
   have hsb : (l ++ ByteArray.mk #[32]).size + x.size ≤ 9223372036854775807 := by rw [ByteArray.size_append]; show (l.size + 1) + x.size ≤ _; omega
   have e3 : (M ++ [l]).set M.length (Zaw l x) = M ++ [Zaw l x] := by rw [List.set_append_right _ _ (Nat.le_refl _)]; simp
   have e4 : l ++ ByteArray.mk #[32] ++ x = Zaw l x := by unfold Zaw; rw [ByteArray.append_assoc]
   have hd1 : decide ((l.size : Int) + 1 + (x.size : Int) ≤ width) = true := decide_eq_true hle
   have HE4 := Za e4
   clear hadd HXN HZN key HO e1 e2 hlz hws HZX hbg e4
   go_wp2_with fail
   go_quiet (fail)
   have ca : (wr.drewN nq).cell? ⟨b, o + i, none⟩ = some (.string x) := c1
   have cb : (wr.drewN nq).cell? ⟨g, M.length, none⟩ = some (.string l) := hcl
   have cf : (wr.drewN nq).frozen? ⟨g, M.length, none⟩ = false := hfz
   have HO3 : Hid (Yx (wr.drewN nq) w1.heap.size (.slice (some ⟨g, 0, none⟩) (M.length + 1) cc5) (M ++ [l])) := Zco HO2.out nq
   have HB3 : Hid (Below w1.heap.size w1 (wr.drewN nq)) := Zam HBR.out nq
   clear c1 hcl hfz HO2 HBR
   generalize wr.drewN nq = wq at ca cb cf HO3 HB3 ⊢
   have HON : Hid (Yx ((wq.setCell ⟨g, M.length, none⟩ (.string (l ++ ByteArray.mk #[32] ++ x))).drew) w1.heap.size (.slice (some ⟨g, 0, none⟩) (M.length + 1) cc5) (M ++ [Zaw l x])) := by
    have := Yx.store HO3.out M.length (l ++ ByteArray.mk #[32] ++ x)
    rw [HE4.out, e3] at this
    rw [HE4.out]
    exact this.below (Zt (Zf _))
   clear e3
   go_wp2_with fail
   go_big_region
   go_wp2_with fail
   go_roundg (ws.length - (i + 1))
   case measure => omega
   case rel => exact ⟨i + 1, _, by go_num, by omega, by omega, by simp; omega, (show Aside _ from HK.out.1), HON.out, (show Aside _ from HK.out.2), Zt (Yi HB3.out HBG.out _)⟩
  rw [if_neg hle] at hadd
  have HK := key hadd
  have HXL := Za hXn
  have hd1 : decide ((l.size : Int) + 1 + (x.size : Int) ≤ width) = false := decide_eq_false hle
  clear hadd HXN HZN key HO e1 hlz hws HZX hbg hXn
  go_wp2_with fail
  go_quiet (fail)
  have ca : (wr.drewN nq).cell? ⟨b, o + i, none⟩ = some (.string x) := c1
  have HO3 : Hid (Yx (wr.drewN nq) w1.heap.size (.slice (some ⟨g, 0, none⟩) (M.length + 1) cc5) (M ++ [l])) := Zco HO2.out nq
  have HB3 : Hid (Below w1.heap.size w1 (wr.drewN nq)) := Zam HBR.out nq
  clear c1 hcl hfz HO2 HBR
  generalize wr.drewN nq = wq at ca HO3 HB3 ⊢
  go_wp2_with (at_builtin; refine Ys rfl (.tmp 54) (.tmp 59) rfl w1.heap.size _ (M ++ [l]) rfl (HO3.out.below (Zc (Zf _) _)) ⟨wq.heap.size, 0, none⟩ 1 x rfl (Zj _ _ _ _ 0 _ rfl) (by rw [e2]; exact HXL.out) (by have := HB3.out.size; simp; omega) ?_)
  intro v' w4 H1 H2 H3
  have HBN : Hid (Below w1.heap.size w1 w4) := (Zc HB3.out (.cells #[.string x] 9)).trans (Qg H2.out (by have := HB3.out.size; simp; omega) (fun b hb => (HO3.out.lt hb).1))
  clear H2 H3 HO3 HXL
  go_wp2_with fail
  go_roundg (ws.length - (i + 1))
  case measure => omega
  case rel => exact ⟨i + 1, _, by go_num, by omega, by omega, by simp; omega, (show Aside _ from HK.out.1), (show Aside _ from by have := H1.out; rw [List.append_assoc]; exact this), (show Aside _ from HK.out.2), HBN.out⟩
 have hltz : ¬ (i : Int) < (ws.length : Int) := by omega
 have hx := HX.out
 rw [List.drop_eq_nil_of_le (by omega), List.foldl_nil] at hx
 have HX9 := Za hx
 clear hx
 go_wp2_with fail
 go_ret
 exact ⟨_, rfl, by rw [← HX9.out]; exact HO.out.base hbs.out, step HB.out HBR.out⟩
end Go.Proofs.YtgdmcmicfoamlaaGreatDoor
