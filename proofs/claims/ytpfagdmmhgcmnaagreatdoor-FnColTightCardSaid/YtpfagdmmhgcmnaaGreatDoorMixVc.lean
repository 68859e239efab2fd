import Derived.Test.YtpfagdmmhgcmnaaGreatDoorMixTx
import Derived.Test.YtpfagdmmhgcmnaaGreatDoorMixSk
import Derived.Test.YtpfagdmmhgcmnaaGreatDoorMixTj
import Derived.Test.YtpfagdmmhgcmnaaGreatDoorMixTw
set_option linter.unusedVariables false
set_option linter.unusedSimpArgs false
namespace Go.Proofs.YtpfagdmmhgcmnaaGreatDoor
open Go.RowKit
theorem colL_in (cells : List GCell) (nr : Nat) (j : Int) : ∀ x ∈ colL cells nr j, ∃ q : Nat, x = q ∧ q < cells.length := by
 intro x hx
 obtain ⟨h0, k, _, h2⟩ := ((chg_spec _ nr).1 x).1 hx
 unfold atL at h2
 split at h2
 ·
  rename_i i hi
  exact ⟨i, h2.symm, (List.findIdx?_eq_some_iff_getElem.1 hi).1⟩
 ·
  omega
theorem rd_gcell {w : World} {A : Option Addr} {xs : List GCell} (h : Rd gcN w A xs) (q : Nat) (hq : q < xs.length) : ∃ b o, A = some ⟨b, o, none⟩ ∧ b < w.heap.size ∧ w.cell? ⟨b, o + q * 5, none⟩ = some (.int .i64 xs[q].row) ∧ w.cell? ⟨b, o + q * 5 + 1, none⟩ = some (.int .i64 xs[q].col) ∧ w.cell? ⟨b, o + q * 5 + 2, none⟩ = some (.int .i64 xs[q].rows) ∧ w.cell? ⟨b, o + q * 5 + 3, none⟩ = some (.int .i64 xs[q].cols) ∧ w.cell? ⟨b, o + q * 5 + 4, none⟩ = some (.int .i64 xs[q].inn) := by
 obtain ⟨b, o, c0, c1, c2, c3, c4, rfl, hlt, hK, h0, h1, h2, h3, h4⟩ := h.at5 rfl (brefl _) q hq
 have e : [c0, c1, c2, c3, c4] = gcE xs[q] := hK.1
 simp only [gcE, List.cons.injEq, and_true] at e
 obtain ⟨rfl, rfl, rfl, rfl, rfl⟩ := e
 exact ⟨b, o, rfl, hlt, h0, h1, h2, h3, h4⟩
theorem colLeast_le90 {t : Tbl} {k : Nat} (hy : GoodRows t k) (h1 : ∀ r ∈ t.rows, ∀ c ∈ r.cs, c.c ≤ 1) : (colLeastL 400 t).length ≤ 90 ∧ (colWishL 400 t).length ≤ 90 := by
 cases h : tblOk t with
 | false => unfold colLeastL colWishL; rw [h]; exact ⟨Nat.zero_le _, Nat.zero_le _⟩
 | true =>
  obtain ⟨n, _, h2, h3, h4, _⟩ := colTight_ok h hy h1
  omega
set_option linter.unusedSimpArgs false in
set_option maxRecDepth 100000 in
set_option maxHeartbeats 40000000 in
theorem law_FnColTight (A : Option Addr) (n c : Nat) (w : World) (hw : Base w) (h : BytesAt w A n c) :
  Calls Tryz.prog 4 #[.slice A n c] w fun e w' => e = .returned (.bool true) ∧ Below w.heap.size w w' := by
 have hD := spec_DrawColLeast A n c w h
 have HW := hide hw
 have hn1 := h.1
 clear h hw
 by_cases hb1 : (1048576 : Int) < n
 ·
  clear hD
  go_enter Tryz.func4, Tryz.ntmps4
  go_wp2_with fail
  go_ret
  exact ⟨rfl, brefl w⟩
 go_enter Tryz.func4, Tryz.ntmps4
 go_wp2_with fail
 refine hD.mono ?_
 rintro e W1 ⟨t, vc, vr, rfl, htb, hO1, hB1⟩
 obtain ⟨⟨Ac, kc, rfl⟩, Ar, kr, rfl⟩ := hO1.form
 obtain ⟨k, hy⟩ := htb.good
 have hs1 : w.heap.size ≤ W1.heap.size := hB1.size
 have HY := hide (oneT_good hy)
 have HRL := hide htb.rows
 have HSZ := hide (oneT_size (any_sized htb))
 obtain ⟨V1, hV1⟩ : ∃ V, V = W1.alloc (.cells #[.slice Ac t.cols.length kc, .int .i64 t.head, .int .i64 t.foot, .slice Ar t.rows.length kr, .int .i64 t.gap] 26) := ⟨_, rfl⟩
 have hz1 : V1.heap.size = W1.heap.size + 1 := by rw [hV1]; simp
 have HB1 : Hid (Below w.heap.size w V1) := by rw [hV1]; exact balloc hB1 _
 have HM1 : Hid (TabM V1 w.heap.size W1.heap.size (.slice Ac t.cols.length kc) (.slice Ar t.rows.length kr) t t.rows) := by rw [hV1]; exact TabM.new hO1
 have HV := hide hV1
 clear hD htb hO1 hB1 hy hV1
 have f0 := HM1.out.blk.1 0 _ rfl
 have f1 := HM1.out.blk.1 1 _ rfl
 have f2 := HM1.out.blk.1 2 _ rfl
 have f3 := HM1.out.blk.1 3 _ rfl
 have f4 := HM1.out.blk.1 4 _ rfl
 go_wp2_with fail
 rw [← HV.out]
 have hmax := max_int
 clear f0 f1 f2 f3 f4 HV
 go_loopg [4, 5] t.rows.length (fun gg s4 s5 wr => ∃ kx : Nat, kx ≤ t.rows.length ∧ t.rows.length - kx ≤ gg ∧ s4 = .int .i64 kx ∧ Aside (TabM wr w.heap.size W1.heap.size (.slice Ac t.cols.length kc) (.slice Ar t.rows.length kr) t (mapTo oneR kx t.rows)) ∧ Aside (Below w.heap.size w wr))
 case atStart => exact ⟨0, Nat.zero_le _, by omega, rfl, (show Aside _ from by rw [mapTo_zero]; exact HM1.out), HB1.out⟩
 case round =>
  obtain ⟨kx, hkx, hgg, rfl, HM, HB⟩ := hrel
  have f3 : wr.cell? ⟨W1.heap.size, 3, none⟩ = some (.slice Ar t.rows.length kr) := HM.out.blk.1 3 _ rfl
  have hrl9 : t.rows.length ≤ 9 := HRL.out.2
  by_cases hlt : kx < t.rows.length
  ·
   have hltz : (kx : Int) < (t.rows.length : Int) := by omega
   have hlt' : kx < (mapTo oneR kx t.rows).length := by rw [mapTo_length]; exact hlt
   obtain ⟨g, Aj, cj, rfl, hr1, hfr, hlies, htg, hbg⟩ := HM.out.row hlt'
   rw [mapTo_get oneR kx t.rows hlt hlt'] at hr1 hlies
   obtain ⟨CS, hCS⟩ : ∃ CS, t.rows[kx].cs = CS := ⟨_, rfl⟩
   rw [hCS] at hr1 hlies
   have hcs5 : CS.length ≤ 5 := by
    have h1 := (HY.out kx (by simp [oneT]; exact hlt)).1
    have h2 : ((oneT t).rows[kx]'(by simp [oneT]; exact hlt)).cs.length = CS.length := by simp [oneT, oneR, hCS]
    rw [h2] at h1
    split at h1 <;> omega
   have HCS := hide hCS
   have HL := hide hlies
   have HTG := hide htg
   have hws : w.heap.size ≤ wr.heap.size := HB.out.size
   clear hCS hlies htg hlt'
   go_wp2_with fail
   have ed := bdrew (brefl wr)
   have z3 := keepW ed f3
   have qr := keepW ed hr1
   have HBD := hide (bdrew HB.out)
   have HLI := hide (HL.out.below ed)
   have HMD : Hid (TabM wr.drew w.heap.size W1.heap.size (.slice Ac t.cols.length kc) (.slice (some ⟨g, 0, none⟩) t.rows.length kr) t (mapTo oneR kx t.rows)) := HM.out.below ed
   have qf : wr.drew.frozen? ⟨g, kx * 2, none⟩ = false := by simpa using hfr
   obtain ⟨q0, hq, hq0, hq1, hq2⟩ := info_parts info_cloneCells
   have hgl : g < wr.drew.heap.size := (HMD.out.row (j := kx) (by rw [mapTo_length]; exact hlt)).elim fun _ h => HTG.out.lt
   clear ed f3 hr1 hfr
   obtain ⟨KF, hKF⟩ : ∃ f : Nat → Value → World → Prop, f = (fun j v W => match j with | 0 => v = .pointer (some ⟨W1.heap.size, 3, none⟩) | 1 => v = .slice (some ⟨g, 0, none⟩) t.rows.length kr | 2 => v = .int .i64 ↑kx | 3 => ∃ A3, v = .slice (some ⟨A3, 0, none⟩) 0 0 ∧ W.ownsRow wr.drew.heap.size 52 11 (.slice (some ⟨A3, 0, none⟩) 0 0) 0 [] | 4 => v = .pointer (some ⟨W1.heap.size, 3, none⟩) | 5 => v = .slice (some ⟨g, 0, none⟩) t.rows.length kr | 6 => v = .int .i64 ↑kx | 7 => v = .pointer (some ⟨g, kx * 2, none⟩) | 8 => v = .pointer (some ⟨g, kx * 2, none⟩) | 9 => v = .slice Aj CS.length cj | 10 => ∃ A10 c10, v = .slice A10 CS.length c10 ∧ W.ownsRow wr.drew.heap.size 52 11 (.slice A10 CS.length c10) CS.length (CS.flatMap cellE) | 11 => v = .pointer (some ⟨g, kx * 2, none⟩) | 12 => v = .pointer (some ⟨g, kx * 2, none⟩) | _ => True) := ⟨_, rfl⟩
   have k0 : ∀ v W, KF 0 v W ↔ (v = .pointer (some ⟨W1.heap.size, 3, none⟩)) := fun v W => by rw [hKF]; first | done | exact Iff.rfl
   have k1 : ∀ v W, KF 1 v W ↔ (v = .slice (some ⟨g, 0, none⟩) t.rows.length kr) := fun v W => by rw [hKF]; first | done | exact Iff.rfl
   have k2 : ∀ v W, KF 2 v W ↔ (v = .int .i64 ↑kx) := fun v W => by rw [hKF]; first | done | exact Iff.rfl
   have k3 : ∀ v W, KF 3 v W ↔ (∃ A3, v = .slice (some ⟨A3, 0, none⟩) 0 0 ∧ W.ownsRow wr.drew.heap.size 52 11 (.slice (some ⟨A3, 0, none⟩) 0 0) 0 []) := fun v W => by rw [hKF]; first | done | exact Iff.rfl
   have k4 : ∀ v W, KF 4 v W ↔ (v = .pointer (some ⟨W1.heap.size, 3, none⟩)) := fun v W => by rw [hKF]; first | done | exact Iff.rfl
   have k5 : ∀ v W, KF 5 v W ↔ (v = .slice (some ⟨g, 0, none⟩) t.rows.length kr) := fun v W => by rw [hKF]; first | done | exact Iff.rfl
   have k6 : ∀ v W, KF 6 v W ↔ (v = .int .i64 ↑kx) := fun v W => by rw [hKF]; first | done | exact Iff.rfl
   have k7 : ∀ v W, KF 7 v W ↔ (v = .pointer (some ⟨g, kx * 2, none⟩)) := fun v W => by rw [hKF]; first | done | exact Iff.rfl
   have k8 : ∀ v W, KF 8 v W ↔ (v = .pointer (some ⟨g, kx * 2, none⟩)) := fun v W => by rw [hKF]; first | done | exact Iff.rfl
   have k9 : ∀ v W, KF 9 v W ↔ (v = .slice Aj CS.length cj) := fun v W => by rw [hKF]; first | done | exact Iff.rfl
   have k10 : ∀ v W, KF 10 v W ↔ (∃ A10 c10, v = .slice A10 CS.length c10 ∧ W.ownsRow wr.drew.heap.size 52 11 (.slice A10 CS.length c10) CS.length (CS.flatMap cellE)) := fun v W => by rw [hKF]; first | done | exact Iff.rfl
   have k11 : ∀ v W, KF 11 v W ↔ (v = .pointer (some ⟨g, kx * 2, none⟩)) := fun v W => by rw [hKF]; first | done | exact Iff.rfl
   have k12 : ∀ v W, KF 12 v W ↔ (v = .pointer (some ⟨g, kx * 2, none⟩)) := fun v W => by rw [hKF]; first | done | exact Iff.rfl
   have HST : StableP KF := by
    rw [hKF]
    intro j v W W9 h hb
    by_cases hjn : j < 14
    ·
     obtain rfl | rfl | rfl | rfl | rfl | rfl | rfl | rfl | rfl | rfl | rfl | rfl | rfl | rfl : j = 0 ∨ j = 1 ∨ j = 2 ∨ j = 3 ∨ j = 4 ∨ j = 5 ∨ j = 6 ∨ j = 7 ∨ j = 8 ∨ j = 9 ∨ j = 10 ∨ j = 11 ∨ j = 12 ∨ j = 13 := by omega
     ·
      exact h
     ·
      exact h
     ·
      exact h
     ·
      obtain ⟨A3, hv, h⟩ := h
      exact ⟨A3, hv, own_below h hb⟩
     ·
      exact h
     ·
      exact h
     ·
      exact h
     ·
      exact h
     ·
      exact h
     ·
      exact h
     ·
      obtain ⟨A10, c10, hv, h⟩ := h
      exact ⟨A10, c10, hv, own_below h hb⟩
     ·
      exact h
     ·
      exact h
     ·
      exact trivial
    ·
     match j, h with
     | 0, h => exact absurd (by decide) hjn
     | 1, h => exact absurd (by decide) hjn
     | 2, h => exact absurd (by decide) hjn
     | 3, h => exact absurd (by decide) hjn
     | 4, h => exact absurd (by decide) hjn
     | 5, h => exact absurd (by decide) hjn
     | 6, h => exact absurd (by decide) hjn
     | 7, h => exact absurd (by decide) hjn
     | 8, h => exact absurd (by decide) hjn
     | 9, h => exact absurd (by decide) hjn
     | 10, h => exact absurd (by decide) hjn
     | 11, h => exact absurd (by decide) hjn
     | 12, h => exact absurd (by decide) hjn
     | 13, h => exact absurd (by decide) hjn
     | _ + 14, h => exact h
   clear hKF
   obtain ⟨dep, hdep⟩ : ∃ f : Nat → List Nat, f = (fun j => match j with | 1 => [0] | 5 => [4] | 7 => [5, 6] | 8 => [7] | 9 => [8] | 10 => [3, 9] | 11 => [1, 2] | 12 => [11] | 13 => [12, 10] | _ => []) := ⟨_, rfl⟩
   have d0 : dep 0 = [] := congrFun hdep 0
   have d1 : dep 1 = [0] := congrFun hdep 1
   have d2 : dep 2 = [] := congrFun hdep 2
   have d3 : dep 3 = [] := congrFun hdep 3
   have d4 : dep 4 = [] := congrFun hdep 4
   have d5 : dep 5 = [4] := congrFun hdep 5
   have d6 : dep 6 = [] := congrFun hdep 6
   have d7 : dep 7 = [5, 6] := congrFun hdep 7
   have d8 : dep 8 = [7] := congrFun hdep 8
   have d9 : dep 9 = [8] := congrFun hdep 9
   have d10 : dep 10 = [3, 9] := congrFun hdep 10
   have d11 : dep 11 = [1, 2] := congrFun hdep 11
   have d12 : dep 12 = [11] := congrFun hdep 12
   have d13 : dep 13 = [12, 10] := congrFun hdep 13
   clear hdep
   have HLD : LastP 14 13 dep := by
    intro L hc _ k13
    have k12 : L 12 := hc 13 k13 12 (by rw [d13]; simp)
    have k11 : L 11 := hc 12 k12 11 (by rw [d12]; simp)
    have k10 : L 10 := hc 13 k13 10 (by rw [d13]; simp)
    have k9 : L 9 := hc 10 k10 9 (by rw [d10]; simp)
    have k8 : L 8 := hc 9 k9 8 (by rw [d9]; simp)
    have k7 : L 7 := hc 8 k8 7 (by rw [d8]; simp)
    have k6 : L 6 := hc 7 k7 6 (by rw [d7]; simp)
    have k5 : L 5 := hc 7 k7 5 (by rw [d7]; simp)
    have k4 : L 4 := hc 5 k5 4 (by rw [d5]; simp)
    have k3 : L 3 := hc 10 k10 3 (by rw [d10]; simp)
    have k2 : L 2 := hc 11 k11 2 (by rw [d11]; simp)
    have k1 : L 1 := hc 11 k11 1 (by rw [d11]; simp)
    have k0 : L 0 := hc 1 k1 0 (by rw [d1]; simp)
    intro j hj
    obtain rfl | rfl | rfl | rfl | rfl | rfl | rfl | rfl | rfl | rfl | rfl | rfl | rfl : j = 0 ∨ j = 1 ∨ j = 2 ∨ j = 3 ∨ j = 4 ∨ j = 5 ∨ j = 6 ∨ j = 7 ∨ j = 8 ∨ j = 9 ∨ j = 10 ∨ j = 11 ∨ j = 12 := by omega
    all_goals assumption
   obtain ⟨st, hst⟩ : ∃ f : Nat → Value, f = (fun j => match j with | 0 => u26 | 1 => u27 | 2 => u28 | 3 => u29 | 4 => u30 | 5 => u31 | 6 => u32 | 7 => u33 | 8 => u34 | 9 => u35 | 10 => u36 | 11 => u37 | 12 => u38 | _ => undef) := ⟨_, rfl⟩
   have st0 : st 0 = u26 := congrFun hst 0
   have st1 : st 1 = u27 := congrFun hst 1
   have st2 : st 2 = u28 := congrFun hst 2
   have st3 : st 3 = u29 := congrFun hst 3
   have st4 : st 4 = u30 := congrFun hst 4
   have st5 : st 5 = u31 := congrFun hst 5
   have st6 : st 6 = u32 := congrFun hst 6
   have st7 : st 7 = u33 := congrFun hst 7
   have st8 : st 8 = u34 := congrFun hst 8
   have st9 : st 9 = u35 := congrFun hst 9
   have st10 : st 10 = u36 := congrFun hst 10
   have st11 : st 11 = u37 := congrFun hst 11
   have st12 : st 12 = u38 := congrFun hst 12
   refine wp_region_inv (fun l a W => ∃ vs : Nat → Value, a = ⟨List.toArray (.slice A n c :: undef :: .bool false :: .pointer (some ⟨W1.heap.size, 0, none⟩) :: .int .i64 ↑kx :: u5 :: undef :: undef :: undef :: undef :: undef :: undef :: undef :: undef :: .slice A n c :: .int .i64 ↑n :: .bool false :: .slice A n c :: .agg #[.slice Ac t.cols.length kc, .int .i64 t.head, .int .i64 t.foot, .slice (some ⟨g, 0, none⟩) t.rows.length kr, .int .i64 t.gap] :: .int .i64 ↑kx :: .pointer (some ⟨W1.heap.size, 3, none⟩) :: .slice (some ⟨g, 0, none⟩) t.rows.length kr :: .int .i64 ↑t.rows.length :: .bool true :: u24 :: u25 :: vs 0 :: vs 1 :: vs 2 :: vs 3 :: vs 4 :: vs 5 :: vs 6 :: vs 7 :: vs 8 :: vs 9 :: vs 10 :: vs 11 :: vs 12 :: u39 :: u40 :: u41 :: u42 :: u43 :: u44 :: u45 :: u46 :: u47 :: u48 :: u49 :: u50 :: u51 :: u52 :: u53 :: u54 :: u55 :: u56 :: u57 :: u58 :: u59 :: u60 :: u61 :: u62 :: u63 :: u64 :: u65 :: u66 :: u67 :: u68 :: u69 :: undef :: undef :: undef :: undef :: undef :: undef :: undef :: undef :: undef :: undef :: undef :: undef :: undef :: undef :: undef :: undef :: undef :: undef :: undef :: undef :: undef :: undef :: undef :: undef :: undef :: undef :: undef :: undef :: undef :: undef :: undef :: undef :: undef :: undef :: undef :: undef :: undef :: undef :: undef :: undef :: undef :: undef :: undef :: undef :: undef :: undef :: undef :: undef :: undef :: undef :: undef :: undef :: undef :: undef :: undef :: undef :: undef :: undef :: undef :: undef :: undef :: undef :: undef :: undef :: undef :: undef :: undef :: undef :: undef :: undef :: undef :: undef :: undef :: undef :: undef :: undef :: undef :: undef :: undef :: undef :: undef :: undef :: undef :: undef :: undef :: undef :: undef :: undef :: undef :: undef :: undef :: undef :: undef :: []), []⟩ ∧ PMid KF 14 13 dep (wr.drew) (fun W v W2 => ∃ A9 c9, W.ownsRow wr.drew.heap.size 52 11 (.slice A9 CS.length c9) CS.length (CS.flatMap cellE) ∧ W2 = W.setCell ⟨g, kx * 2, none⟩ (.slice A9 CS.length c9)) st l vs W) (by kernel_rfl) ?top ?start ?step ?fin
   case top =>
    clear k0 k1 k2 k3 k4 k5 k6 k7 k8 k9 k10 k11 k12 d0 d1 d2 d3 d4 d5 d6 d7 d8 d9 d10 d11 d12 d13 hst st0 st1 st2 st3 st4 st5 st6 st7 st8 st9 st10 st11 st12
    intro j o ho e he
    have hj : j < 14 := (Array.getElem?_eq_some_iff.1 ho).1
    have hA : (o.after.all fun e => decide (e.on < j)) = true := by
     obtain rfl | rfl | rfl | rfl | rfl | rfl | rfl | rfl | rfl | rfl | rfl | rfl | rfl | rfl : j = 0 ∨ j = 1 ∨ j = 2 ∨ j = 3 ∨ j = 4 ∨ j = 5 ∨ j = 6 ∨ j = 7 ∨ j = 8 ∨ j = 9 ∨ j = 10 ∨ j = 11 ∨ j = 12 ∨ j = 13 := by omega
     all_goals
      simp only [List.getElem?_toArray, List.getElem?_cons_zero, List.getElem?_cons_succ, Option.some.injEq] at ho
      subst ho
      first | decide | kernel_rfl | simp
    simpa using Array.all_eq_true'.1 hA e he
   case start => exact ⟨st, by rw [hst]; first | done | rfl, PMid.start⟩
   case step =>
    rintro l a W i o ho hl hpre hsz ⟨vs, rfl, hM0⟩ K hK
    have hi : i < 14 := (Array.getElem?_eq_some_iff.1 ho).1
    obtain rfl | rfl | rfl | rfl | rfl | rfl | rfl | rfl | rfl | rfl | rfl | rfl | rfl | rfl : i = 0 ∨ i = 1 ∨ i = 2 ∨ i = 3 ∨ i = 4 ∨ i = 5 ∨ i = 6 ∨ i = 7 ∨ i = 8 ∨ i = 9 ∨ i = 10 ∨ i = 11 ∨ i = 12 ∨ i = 13 := by omega
    ·
     simp only [List.getElem?_toArray, List.getElem?_cons_zero, List.getElem?_cons_succ, Option.some.injEq] at ho
     subst ho
     have hMB := hM0.below HLD hi (by decide) hl
     have hMG := hM0.get HLD hi (by decide) hl
     have hdp : ∀ e ∈ dep 0, l.getD e false = true := by rw [d0]; exact dep_nil
     have e := k0
     clear k0 k1 k2 k3 k4 k5 k6 k7 k8 k9 k10 k11 k12 d0 d1 d2 d3 d4 d5 d6 d7 d8 d9 d10 d11 d12 d13 hst st0 st1 st2 st3 st4 st5 st6 st7 st8 st9 st10 st11 st12
     go_simp
     exact hK.out _ _ ⟨updV vs 0 (.pointer (some ⟨W1.heap.size, 3, none⟩)), rfl, hM0.still HLD HST 0 (by decide) (by decide) hl _ hdp ((e _ _).2 rfl)⟩
    ·
     simp only [List.getElem?_toArray, List.getElem?_cons_zero, List.getElem?_cons_succ, Option.some.injEq] at ho
     subst ho
     have hMB := hM0.below HLD hi (by decide) hl
     have hMG := hM0.get HLD hi (by decide) hl
     have v0 : vs 0 = .pointer (some ⟨W1.heap.size, 3, none⟩) := (k0 _ _).1 (hMG 0 (by decide) (hpre ⟨0, .data⟩ (by simp) rfl))
     have hdp : ∀ e ∈ dep 1, l.getD e false = true := by rw [d1]; exact (dep_cons (hpre ⟨0, .data⟩ (by simp) rfl) dep_nil)
     have e := k1
     clear k0 k1 k2 k3 k4 k5 k6 k7 k8 k9 k10 k11 k12 d0 d1 d2 d3 d4 d5 d6 d7 d8 d9 d10 d11 d12 d13 hst st0 st1 st2 st3 st4 st5 st6 st7 st8 st9 st10 st11 st12
     have x0 := keepW hMB z3
     rw [v0]
     go_simp
     exact hK.out _ _ ⟨updV vs 1 (.slice (some ⟨g, 0, none⟩) t.rows.length kr), (by simp [updV, v0]), hM0.still HLD HST 1 (by decide) (by decide) hl _ hdp ((e _ _).2 rfl)⟩
    ·
     simp only [List.getElem?_toArray, List.getElem?_cons_zero, List.getElem?_cons_succ, Option.some.injEq] at ho
     subst ho
     have hMB := hM0.below HLD hi (by decide) hl
     have hMG := hM0.get HLD hi (by decide) hl
     have hdp : ∀ e ∈ dep 2, l.getD e false = true := by rw [d2]; exact dep_nil
     have e := k2
     clear k0 k1 k2 k3 k4 k5 k6 k7 k8 k9 k10 k11 k12 d0 d1 d2 d3 d4 d5 d6 d7 d8 d9 d10 d11 d12 d13 hst st0 st1 st2 st3 st4 st5 st6 st7 st8 st9 st10 st11 st12
     go_simp
     exact hK.out _ _ ⟨updV vs 2 (.int .i64 ↑kx), rfl, hM0.still HLD HST 2 (by decide) (by decide) hl _ hdp ((e _ _).2 rfl)⟩
    ·
     simp only [List.getElem?_toArray, List.getElem?_cons_zero, List.getElem?_cons_succ, Option.some.injEq] at ho
     subst ho
     have hMB := hM0.below HLD hi (by decide) hl
     have hMG := hM0.get HLD hi (by decide) hl
     have hdp : ∀ e ∈ dep 3, l.getD e false = true := by rw [d3]; exact dep_nil
     have e := k3
     clear k0 k1 k2 k3 k4 k5 k6 k7 k8 k9 k10 k11 k12 d0 d1 d2 d3 d4 d5 d6 d7 d8 d9 d10 d11 d12 d13 hst st0 st1 st2 st3 st4 st5 st6 st7 st8 st9 st10 st11 st12
     go_simp
     exact hK.out _ _ ⟨updV vs 3 (.slice (some ⟨W.heap.size, 0, none⟩) 0 0), (by simp [updV]), hM0.next HLD HST 3 (by decide) (by decide) hl _ hdp (balloc (brefl _) _) ((e _ _).2 ⟨_, rfl, (made_at W W.heap.size rfl hMB.size)⟩)⟩
    ·
     simp only [List.getElem?_toArray, List.getElem?_cons_zero, List.getElem?_cons_succ, Option.some.injEq] at ho
     subst ho
     have hMB := hM0.below HLD hi (by decide) hl
     have hMG := hM0.get HLD hi (by decide) hl
     have hdp : ∀ e ∈ dep 4, l.getD e false = true := by rw [d4]; exact dep_nil
     have e := k4
     clear k0 k1 k2 k3 k4 k5 k6 k7 k8 k9 k10 k11 k12 d0 d1 d2 d3 d4 d5 d6 d7 d8 d9 d10 d11 d12 d13 hst st0 st1 st2 st3 st4 st5 st6 st7 st8 st9 st10 st11 st12
     go_simp
     exact hK.out _ _ ⟨updV vs 4 (.pointer (some ⟨W1.heap.size, 3, none⟩)), rfl, hM0.still HLD HST 4 (by decide) (by decide) hl _ hdp ((e _ _).2 rfl)⟩
    ·
     simp only [List.getElem?_toArray, List.getElem?_cons_zero, List.getElem?_cons_succ, Option.some.injEq] at ho
     subst ho
     have hMB := hM0.below HLD hi (by decide) hl
     have hMG := hM0.get HLD hi (by decide) hl
     have v4 : vs 4 = .pointer (some ⟨W1.heap.size, 3, none⟩) := (k4 _ _).1 (hMG 4 (by decide) (hpre ⟨4, .data⟩ (by simp) rfl))
     have hdp : ∀ e ∈ dep 5, l.getD e false = true := by rw [d5]; exact (dep_cons (hpre ⟨4, .data⟩ (by simp) rfl) dep_nil)
     have e := k5
     clear k0 k1 k2 k3 k4 k5 k6 k7 k8 k9 k10 k11 k12 d0 d1 d2 d3 d4 d5 d6 d7 d8 d9 d10 d11 d12 d13 hst st0 st1 st2 st3 st4 st5 st6 st7 st8 st9 st10 st11 st12
     have x0 := keepW hMB z3
     rw [v4]
     go_simp
     exact hK.out _ _ ⟨updV vs 5 (.slice (some ⟨g, 0, none⟩) t.rows.length kr), (by simp [updV, v4]), hM0.still HLD HST 5 (by decide) (by decide) hl _ hdp ((e _ _).2 rfl)⟩
    ·
     simp only [List.getElem?_toArray, List.getElem?_cons_zero, List.getElem?_cons_succ, Option.some.injEq] at ho
     subst ho
     have hMB := hM0.below HLD hi (by decide) hl
     have hMG := hM0.get HLD hi (by decide) hl
     have hdp : ∀ e ∈ dep 6, l.getD e false = true := by rw [d6]; exact dep_nil
     have e := k6
     clear k0 k1 k2 k3 k4 k5 k6 k7 k8 k9 k10 k11 k12 d0 d1 d2 d3 d4 d5 d6 d7 d8 d9 d10 d11 d12 d13 hst st0 st1 st2 st3 st4 st5 st6 st7 st8 st9 st10 st11 st12
     go_simp
     exact hK.out _ _ ⟨updV vs 6 (.int .i64 ↑kx), rfl, hM0.still HLD HST 6 (by decide) (by decide) hl _ hdp ((e _ _).2 rfl)⟩
    ·
     simp only [List.getElem?_toArray, List.getElem?_cons_zero, List.getElem?_cons_succ, Option.some.injEq] at ho
     subst ho
     have hMB := hM0.below HLD hi (by decide) hl
     have hMG := hM0.get HLD hi (by decide) hl
     have v5 : vs 5 = .slice (some ⟨g, 0, none⟩) t.rows.length kr := (k5 _ _).1 (hMG 5 (by decide) (hpre ⟨5, .data⟩ (by simp) rfl))
     have v6 : vs 6 = .int .i64 ↑kx := (k6 _ _).1 (hMG 6 (by decide) (hpre ⟨6, .data⟩ (by simp) rfl))
     have hdp : ∀ e ∈ dep 7, l.getD e false = true := by rw [d7]; exact (dep_cons (hpre ⟨5, .data⟩ (by simp) rfl) (dep_cons (hpre ⟨6, .data⟩ (by simp) rfl) dep_nil))
     have e := k7
     clear k0 k1 k2 k3 k4 k5 k6 k7 k8 k9 k10 k11 k12 d0 d1 d2 d3 d4 d5 d6 d7 d8 d9 d10 d11 d12 d13 hst st0 st1 st2 st3 st4 st5 st6 st7 st8 st9 st10 st11 st12
     rw [v5, v6]
     go_simp
     exact hK.out _ _ ⟨updV vs 7 (.pointer (some ⟨g, kx * 2, none⟩)), (by simp [updV, v5, v6]), hM0.still HLD HST 7 (by decide) (by decide) hl _ hdp ((e _ _).2 rfl)⟩
    ·
     simp only [List.getElem?_toArray, List.getElem?_cons_zero, List.getElem?_cons_succ, Option.some.injEq] at ho
     subst ho
     have hMB := hM0.below HLD hi (by decide) hl
     have hMG := hM0.get HLD hi (by decide) hl
     have v7 : vs 7 = .pointer (some ⟨g, kx * 2, none⟩) := (k7 _ _).1 (hMG 7 (by decide) (hpre ⟨7, .data⟩ (by simp) rfl))
     have hdp : ∀ e ∈ dep 8, l.getD e false = true := by rw [d8]; exact (dep_cons (hpre ⟨7, .data⟩ (by simp) rfl) dep_nil)
     have e := k8
     clear k0 k1 k2 k3 k4 k5 k6 k7 k8 k9 k10 k11 k12 d0 d1 d2 d3 d4 d5 d6 d7 d8 d9 d10 d11 d12 d13 hst st0 st1 st2 st3 st4 st5 st6 st7 st8 st9 st10 st11 st12
     rw [v7]
     go_simp
     exact hK.out _ _ ⟨updV vs 8 (.pointer (some ⟨g, kx * 2, none⟩)), (by simp [updV, v7]), hM0.still HLD HST 8 (by decide) (by decide) hl _ hdp ((e _ _).2 rfl)⟩
    ·
     simp only [List.getElem?_toArray, List.getElem?_cons_zero, List.getElem?_cons_succ, Option.some.injEq] at ho
     subst ho
     have hMB := hM0.below HLD hi (by decide) hl
     have hMG := hM0.get HLD hi (by decide) hl
     have v8 : vs 8 = .pointer (some ⟨g, kx * 2, none⟩) := (k8 _ _).1 (hMG 8 (by decide) (hpre ⟨8, .data⟩ (by simp) rfl))
     have hdp : ∀ e ∈ dep 9, l.getD e false = true := by rw [d9]; exact (dep_cons (hpre ⟨8, .data⟩ (by simp) rfl) dep_nil)
     have e := k9
     clear k0 k1 k2 k3 k4 k5 k6 k7 k8 k9 k10 k11 k12 d0 d1 d2 d3 d4 d5 d6 d7 d8 d9 d10 d11 d12 d13 hst st0 st1 st2 st3 st4 st5 st6 st7 st8 st9 st10 st11 st12
     have x0 := keepW hMB qr
     rw [v8]
     go_simp
     exact hK.out _ _ ⟨updV vs 9 (.slice Aj CS.length cj), (by simp [updV, v8]), hM0.still HLD HST 9 (by decide) (by decide) hl _ hdp ((e _ _).2 rfl)⟩
    ·
     simp only [List.getElem?_toArray, List.getElem?_cons_zero, List.getElem?_cons_succ, Option.some.injEq] at ho
     subst ho
     have hMB := hM0.below HLD hi (by decide) hl
     have hMG := hM0.get HLD hi (by decide) hl
     obtain ⟨A3, v3, q3⟩ := (k3 _ _).1 (hMG 3 (by decide) (hpre ⟨3, .data⟩ (by simp) rfl))
     have v9 : vs 9 = .slice Aj CS.length cj := (k9 _ _).1 (hMG 9 (by decide) (hpre ⟨9, .data⟩ (by simp) rfl))
     have hdp : ∀ e ∈ dep 10, l.getD e false = true := by rw [d10]; exact (dep_cons (hpre ⟨3, .data⟩ (by simp) rfl) (dep_cons (hpre ⟨9, .data⟩ (by simp) rfl) dep_nil))
     have e := k10
     clear k0 k1 k2 k3 k4 k5 k6 k7 k8 k9 k10 k11 k12 d0 d1 d2 d3 d4 d5 d6 d7 d8 d9 d10 d11 d12 d13 hst st0 st1 st2 st3 st4 st5 st6 st7 st8 st9 st10 st11 st12
     rw [v3, v9]
     rw [if_pos (by simp [Region.wanted])]
     refine wp_append_empty W (.tmp 29) (.tmp 35) 46 rfl wr.drew.heap.size 52 q0 _ 11 96 und_cloneCells hq hq0 hq1 hq2 rfl (by decide) A3 (by simp [Act.eval, v3]) q3 cellE CS _ (by simp [Act.eval, v9]; done) (HLI.out.below hMB) (flatMap_length cellE 11 (fun _ => rfl) CS) (cells_one _) (by unfold maxLen; omega) (by omega) hMB.size ?_
     intro v9 W9 h2 h3
     obtain ⟨A10, c10, rfl⟩ := own_form0 h2
     exact hK.out _ _ ⟨updV vs 10 (.slice A10 CS.length c10), by simp [updV, Act.put, v3, v9], hM0.next HLD HST 10 (by decide) (by decide) hl _ hdp h3 ((e _ _).2 ⟨A10, c10, rfl, h2⟩)⟩
    ·
     simp only [List.getElem?_toArray, List.getElem?_cons_zero, List.getElem?_cons_succ, Option.some.injEq] at ho
     subst ho
     have hMB := hM0.below HLD hi (by decide) hl
     have hMG := hM0.get HLD hi (by decide) hl
     have v1 : vs 1 = .slice (some ⟨g, 0, none⟩) t.rows.length kr := (k1 _ _).1 (hMG 1 (by decide) (hpre ⟨1, .data⟩ (by simp) rfl))
     have v2 : vs 2 = .int .i64 ↑kx := (k2 _ _).1 (hMG 2 (by decide) (hpre ⟨2, .data⟩ (by simp) rfl))
     have hdp : ∀ e ∈ dep 11, l.getD e false = true := by rw [d11]; exact (dep_cons (hpre ⟨1, .data⟩ (by simp) rfl) (dep_cons (hpre ⟨2, .data⟩ (by simp) rfl) dep_nil))
     have e := k11
     clear k0 k1 k2 k3 k4 k5 k6 k7 k8 k9 k10 k11 k12 d0 d1 d2 d3 d4 d5 d6 d7 d8 d9 d10 d11 d12 d13 hst st0 st1 st2 st3 st4 st5 st6 st7 st8 st9 st10 st11 st12
     rw [v1, v2]
     go_simp
     exact hK.out _ _ ⟨updV vs 11 (.pointer (some ⟨g, kx * 2, none⟩)), (by simp [updV, v1, v2]), hM0.still HLD HST 11 (by decide) (by decide) hl _ hdp ((e _ _).2 rfl)⟩
    ·
     simp only [List.getElem?_toArray, List.getElem?_cons_zero, List.getElem?_cons_succ, Option.some.injEq] at ho
     subst ho
     have hMB := hM0.below HLD hi (by decide) hl
     have hMG := hM0.get HLD hi (by decide) hl
     have v11 : vs 11 = .pointer (some ⟨g, kx * 2, none⟩) := (k11 _ _).1 (hMG 11 (by decide) (hpre ⟨11, .data⟩ (by simp) rfl))
     have hdp : ∀ e ∈ dep 12, l.getD e false = true := by rw [d12]; exact (dep_cons (hpre ⟨11, .data⟩ (by simp) rfl) dep_nil)
     have e := k12
     clear k0 k1 k2 k3 k4 k5 k6 k7 k8 k9 k10 k11 k12 d0 d1 d2 d3 d4 d5 d6 d7 d8 d9 d10 d11 d12 d13 hst st0 st1 st2 st3 st4 st5 st6 st7 st8 st9 st10 st11 st12
     rw [v11]
     go_simp
     exact hK.out _ _ ⟨updV vs 12 (.pointer (some ⟨g, kx * 2, none⟩)), (by simp [updV, v11]), hM0.still HLD HST 12 (by decide) (by decide) hl _ hdp ((e _ _).2 rfl)⟩
    ·
     simp only [List.getElem?_toArray, List.getElem?_cons_zero, List.getElem?_cons_succ, Option.some.injEq] at ho
     subst ho
     have hMB := hM0.below HLD hi (by decide) hl
     have hMG := hM0.get HLD hi (by decide) hl
     have v12 : vs 12 = .pointer (some ⟨g, kx * 2, none⟩) := (k12 _ _).1 (hMG 12 (by decide) (hpre ⟨12, .data⟩ (by simp) rfl))
     obtain ⟨A10, c10, v10, q10⟩ := (k10 _ _).1 (hMG 10 (by decide) (hpre ⟨10, .data⟩ (by simp) rfl))
     have hdp : ∀ e ∈ dep 13, l.getD e false = true := by rw [d13]; exact (dep_cons (hpre ⟨12, .data⟩ (by simp) rfl) (dep_cons (hpre ⟨10, .data⟩ (by simp) rfl) dep_nil))
     have hno : ∀ j, 13 < j → l.getD j false = true → 13 ∈ dep j := by
      intro j hj hj2
      have hjn : j < 14 := by have := getD_over hj2; rw [hM0.size] at this; exact this
      omega
     clear k0 k1 k2 k3 k4 k5 k6 k7 k8 k9 k10 k11 k12 d0 d1 d2 d3 d4 d5 d6 d7 d8 d9 d10 d11 d12 d13 hst st0 st1 st2 st3 st4 st5 st6 st7 st8 st9 st10 st11 st12
     have x0 := keepW hMB qr
     have x1 : W.frozen? ⟨g, kx * 2, none⟩ = false := ((seenBk g hgl hMB).2.1 _).trans qf
     rw [v12, v10]
     go_simp
     exact hK.out _ _ ⟨updV vs 13 undef, by simp [updV, v12, v10], hM0.last HLD (by decide) hl hno _ hdp ⟨A10, c10, q10, rfl⟩⟩
   case fin =>
    rintro l a W7 hall ⟨vs7, rfl, hM0⟩
    obtain ⟨W71, hMB, hMG, hMR, hMA⟩ := hM0.fin (by decide) hall
    have HBW := hide hMB
    obtain ⟨A9, c9, ho9, hW7⟩ := hMR
    have HM7 : Hid (TabM W7 w.heap.size W1.heap.size (.slice Ac t.cols.length kc) (.slice (some ⟨g, 0, none⟩) t.rows.length kr) t ((mapTo oneR kx t.rows).set kx ⟨mapTo oneC 0 CS, t.rows[kx].wh⟩)) := by
     have hk : kx < (mapTo oneR kx t.rows).length := by rw [mapTo_length]; exact hlt
     have hg1 := mapTo_get oneR kx t.rows hlt hk
     have e1 : (mapTo oneR kx t.rows)[kx].cs = CS := by rw [hg1]; exact HCS.out
     have h1 := HMD.out.renew (j := kx) hk HBW.out (Nat.le_trans hws (by simp)) (v' := .slice A9 CS.length c9) (by rw [e1]; exact ho9)
     rw [hW7, mapTo_zero]
     have e2 : (⟨CS, t.rows[kx].wh⟩ : TRow) = (mapTo oneR kx t.rows)[kx] := by rw [hg1, ← HCS.out]
     rw [e2, List.set_getElem_self]
     exact h1
    have HB7 : Hid (Below w.heap.size w W7) := by rw [hW7]; exact bset (step HBD.out HBW.out) hbg _
    clear k0 k1 k2 k3 k4 k5 k6 k7 k8 k9 k10 k11 k12 d0 d1 d2 d3 d4 d5 d6 d7 d8 d9 d10 d11 d12 d13 hst st0 st1 st2 st3 st4 st5 st6 st7 st8 st9 st10 st11 st12 HLD HST hMG hMA ho9 hW7 hMB hall hM0 st qr qf z3 hq hq0 hq1 hq2 hgl
    have hk : kx < (mapTo oneR kx t.rows).length := by rw [mapTo_length]; exact hlt
    go_wp2_with fail
    go_loopg [5] CS.length (fun gg s5 ws => ∃ q : Nat, q ≤ CS.length ∧ CS.length - q ≤ gg ∧ s5 = .int .i64 q ∧ Aside (TabM ws w.heap.size W1.heap.size (.slice Ac t.cols.length kc) (.slice (some ⟨g, 0, none⟩) t.rows.length kr) t ((mapTo oneR kx t.rows).set kx ⟨mapTo oneC q CS, t.rows[kx].wh⟩)) ∧ Aside (Below w.heap.size w ws))
    case atStart => exact ⟨0, Nat.zero_le _, by omega, rfl, HM7.out, HB7.out⟩
    case round =>
     obtain ⟨q, hq, hgq, rfl, HMq, HBq⟩ := hrel
     have f3 : wr.cell? ⟨W1.heap.size, 3, none⟩ = some (.slice (some ⟨g, 0, none⟩) t.rows.length kr) := HMq.out.blk.1 3 _ rfl
     by_cases hlt2 : q < CS.length
     ·
      have hltz2 : (q : Int) < (CS.length : Int) := by omega
      obtain ⟨g', gc, cq, eg, h1, h2, h3, ⟨h4, h5⟩, h6, h7, h8, h9⟩ := HMq.out.oneNext hk hlt2
      injection eg with eg
      injection eg with eg
      subst eg
      have h3q := h3 (q * 11 + 1)
      have H8 := hide h8
      have H9 := hide h9
      have H4 := hide h4
      obtain ⟨cc, hcc⟩ : ∃ cc, CS[q].c = cc := ⟨_, rfl⟩
      rw [hcc] at h2 H8 H9
      clear h3 h8 h9 h4 hcc
      by_cases hc1 : cc > 1
      ·
       have H8' := hide (H8.out hc1)
       clear H8 H9
       go_wp2_with fail
       go_roundg (CS.length - (q + 1))
       case measure => omega
       case rel => exact ⟨q + 1, by omega, by omega, by go_num, H8'.out, bset HBq.out H4.out _⟩
      ·
       have H9' := hide (H9.out hc1)
       clear H8 H9
       go_wp2_with fail
       go_roundg (CS.length - (q + 1))
       case measure => omega
       case rel => exact ⟨q + 1, by omega, by omega, by go_num, H9'.out, HBq.out⟩
     ·
      have hltz2 : ¬ (q : Int) < (CS.length : Int) := by omega
      have hqe : q = CS.length := by omega
      obtain ⟨g', Aq, cq, eg, h1, _, _, _, _⟩ := HMq.out.row (j := kx) (by simpa using hk)
      injection eg with eg
      injection eg with eg
      subst eg
      have e9 : ((mapTo oneR kx t.rows).set kx ⟨mapTo oneC q CS, t.rows[kx].wh⟩)[kx]'(by simpa using hk) = ⟨mapTo oneC q CS, t.rows[kx].wh⟩ := by simp
      simp only [e9] at h1
      rw [mapTo_length] at h1
      have HM9 : Hid (TabM wr w.heap.size W1.heap.size (.slice Ac t.cols.length kc) (.slice (some ⟨g, 0, none⟩) t.rows.length kr) t (mapTo oneR (kx + 1) t.rows)) := by
       have h9 := HMq.out
       rw [hqe, mapTo_all] at h9
       have e8 : (⟨CS.map oneC, t.rows[kx].wh⟩ : TRow) = oneR t.rows[kx] := by unfold oneR; rw [HCS.out]
       rw [e8, mapTo_set oneR kx t.rows hlt] at h9
       exact h9
      clear e9 hqe
      go_wp2_with fail
      go_roundg (t.rows.length - (kx + 1))
      case measure => omega
      case rel => exact ⟨kx + 1, by omega, by omega, by go_num, HM9.out, HBq.out⟩
  ·
   have hltz : ¬ (kx : Int) < (t.rows.length : Int) := by omega
   have hke : kx = t.rows.length := by omega
   subst hke
   have HMe : Hid (TabM wr w.heap.size W1.heap.size (.slice Ac t.cols.length kc) (.slice Ar t.rows.length kr) t (oneT t).rows) := by
    have := HM.out
    rw [mapTo_all] at this
    exact this
   clear f3
   have hTl : W1.heap.size < wr.heap.size := HMe.out.typ.lt
   have hK0 : BlockAt wr W1.heap.size [.slice Ac (oneT t).cols.length kc, .int .i64 (oneT t).head, .int .i64 (oneT t).foot, .slice Ar (oneT t).rows.length kr, .int .i64 (oneT t).gap] := by
    have e1 : (oneT t).rows.length = t.rows.length := by simp [oneT]
    rw [e1]
    exact HMe.out.blk
   have HCB : Hid (∀ W, Below wr.heap.size wr W → Base W ∧ Rd colR W Ac (oneT t).cols ∧ Rd rowR W Ar (oneT t).rows ∧ BlockAt W W1.heap.size [.slice Ac (oneT t).cols.length kc, .int .i64 (oneT t).head, .int .i64 (oneT t).foot, .slice Ar (oneT t).rows.length kr, .int .i64 (oneT t).gap]) :=
    fun W h => ⟨HW.out.below (step HB.out h), HMe.out.rdc.below h, (HMe.out.rdr HSZ.out).below h, hK0.keep (h.block _ hTl)⟩
   have HON := hide (oneT_one t)
   have HSZ2 := hide HSZ.out
   have HY2 := hide HY.out
   clear hK0 HM HMe HM1 HB1 HSZ HY
   have hltz2 : ¬ ((t.rows.length : Int) < ((oneT t).rows.length : Int)) := by simp [oneT]
   clear hltz
   generalize oneT t = t2 at HCB HON HSZ2 HY2 hltz2
   obtain ⟨n1, n2⟩ := colLeast_le90 HY2.out HON.out
   obtain ⟨q1, q2, q3, hK⟩ := HCB.out wr (brefl wr)
   have hE1 := impl_ColLeast t2 Ac kc Ar kr wr q1 q2 q3 HY2.out
   obtain ⟨L, hL⟩ : ∃ L, colLeastL 400 t2 = L := ⟨_, rfl⟩
   obtain ⟨S, hS⟩ : ∃ S, colWishL 400 t2 = S := ⟨_, rfl⟩
   rw [hL] at hE1 n1
   rw [hS] at n2
   have HL := hide hL
   have HS := hide hS
   have f0 := hK.1 0 _ rfl
   have f1 := hK.1 1 _ rfl
   have f2 := hK.1 2 _ rfl
   have f3 := hK.1 3 _ rfl
   have f4 := hK.1 4 _ rfl
   clear hK hL hS q1 q2 q3
   go_wp2_with fail
   refine hE1.mono ?_
   rintro e W2 ⟨v, rfl, hI2, hb2⟩
   obtain ⟨AL, cL, rfl⟩ := hI2.form
   have HI2 := hide (irow_rd hI2)
   have HB2 := hide hb2
   obtain ⟨q1, q2, q3, hK⟩ := HCB.out W2 hb2
   have hE2 := impl_ColWish t2 Ac kc Ar kr W2 q1 q2 q3 HY2.out
   rw [HS.out] at hE2
   have g0 := hK.1 0 _ rfl
   have g1 := hK.1 1 _ rfl
   have g2 := hK.1 2 _ rfl
   have g3 := hK.1 3 _ rfl
   have g4 := hK.1 4 _ rfl
   clear f0 f1 f2 f3 f4 hI2 hb2 hE1 hK q1 q2 q3
   go_wp2_with fail
   refine hE2.mono ?_
   rintro e W3 ⟨v, rfl, hI3, hb3⟩
   obtain ⟨AS, cS, rfl⟩ := hI3.form
   have HJ3 := hide (irow_rd hI3)
   have HI3 := hide (HI2.out.below hb3)
   have HB3 := hide (step HB2.out hb3)
   obtain ⟨q1, q2, q3, hK⟩ := HCB.out W3 HB3.out
   have hE3 := spec_ColLeast t2 Ac kc Ar kr W3 q2 q3 HY2.out
   rw [colLeast_two HY2.out, HL.out] at hE3
   have f0 := hK.1 0 _ rfl
   have f1 := hK.1 1 _ rfl
   have f2 := hK.1 2 _ rfl
   have f3 := hK.1 3 _ rfl
   have f4 := hK.1 4 _ rfl
   clear g0 g1 g2 g3 g4 hI3 hb3 hE2 hK q1 q2 q3
   go_wp2_with fail
   refine hE3.mono ?_
   rintro e W4 ⟨v, rfl, hI4, hb4⟩
   obtain ⟨AM, cM, rfl⟩ := hI4.form
   have hP := laws_pwInts AL cL AM cM L W4 (HI3.out.below hb4) (irow_rd hI4) (by omega)
   have HI4 := hide (HI3.out.below hb4)
   have HJ4 := hide (HJ3.out.below hb4)
   have HB4 := hide (step HB3.out hb4)
   clear f0 f1 f2 f3 f4 hI4 hb4 hE3
   go_wp2_with fail
   refine hP.mono ?_
   rintro e W5 ⟨rfl, nq, hq⟩
   have hb5 : Below W4.heap.size W4 W5 := by rw [hq]; exact bdrewN (brefl _) _
   have HI5 := hide (HI4.out.below hb5)
   have HJ5 := hide (HJ4.out.below hb5)
   have HB5 := hide (step HB4.out hb5)
   obtain ⟨q1, q2, q3, hK⟩ := HCB.out W5 HB5.out
   have hE5 := spec_ColWish t2 Ac kc Ar kr W5 q2 q3 HY2.out
   rw [colWish_two HY2.out, HS.out] at hE5
   have f0 := hK.1 0 _ rfl
   have f1 := hK.1 1 _ rfl
   have f2 := hK.1 2 _ rfl
   have f3 := hK.1 3 _ rfl
   have f4 := hK.1 4 _ rfl
   clear hb5 hq hP hK q1 q2 q3
   go_wp2_with fail
   refine hE5.mono ?_
   rintro e W6 ⟨v, rfl, hI6, hb6⟩
   obtain ⟨AN, cN, rfl⟩ := hI6.form
   have hP := laws_pwInts AS cS AN cN S W6 (HJ5.out.below hb6) (irow_rd hI6) (by omega)
   have HI6 := hide (HI5.out.below hb6)
   have HJ6 := hide (HJ5.out.below hb6)
   have HB6 := hide (step HB5.out hb6)
   clear f0 f1 f2 f3 f4 hI6 hb6 hE5
   go_wp2_with fail
   refine hP.mono ?_
   rintro e W7 ⟨rfl, nq7, hq⟩
   have hb7 : Below W6.heap.size W6 W7 := by rw [hq]; exact bdrewN (brefl _) _
   have HI7 := hide (HI6.out.below hb7)
   have HJ7 := hide (HJ6.out.below hb7)
   have HB7 := hide (step HB6.out hb7)
   obtain ⟨q1, q2, q3, hK⟩ := HCB.out W7 HB7.out
   have hO := spec_TblOk t2 Ac kc Ar kr W7 q2 q3
   have g0 := hK.1 0 _ rfl
   have g1 := hK.1 1 _ rfl
   have g2 := hK.1 2 _ rfl
   have g3 := hK.1 3 _ rfl
   have g4 := hK.1 4 _ rfl
   clear hb7 hq hP hK q1 q2 q3
   cases hok : tblOk t2 with
   | false =>
    rw [hok] at hO
    have hnil : L = [] := by rw [← HL.out]; unfold colLeastL; rw [hok]; rfl
    have hl0 : L.length = 0 := by rw [hnil]; rfl
    rw [hl0]
    clear hok hnil
    go_wp2_with fail
    refine hO.mono ?_
    rintro e W8 ⟨rfl, hb8⟩
    have HB8 := hide (step HB7.out hb8)
    have hPW := laws_pwOk W8 (HCB.out W8 HB8.out).1
    clear g0 g1 g2 g3 g4 hO hb8
    go_wp2_with fail
    refine hPW.mono ?_
    rintro e W9 ⟨rfl, hb9⟩
    go_wp2_with fail
    go_ret
    exact ⟨rfl, step HB.out (step HB8.out hb9)⟩
   | true =>
    rw [hok] at hO
    obtain ⟨m, hm, hm1, hlL, hlS, hT⟩ := colTight_ok hok HY2.out HON.out
    rw [HL.out] at hlL hT
    rw [HS.out] at hlS hT
    have hgr : gridOf 400 t2 = ⟨t2.rows.length, (gridL 400 t2).2, (gridL 400 t2).1⟩ := by unfold gridOf; rw [if_pos hok]
    obtain ⟨_, _, _, hneed, hgl⟩ := grid_need hok HY2.out 400 leastT_in
    have HP := hide (tblOk_parts hok)
    have hsm : Hid (∀ x ∈ (gridL 400 t2).1, GSm x) := (GIn.rows (m := 400) hok).sm (by omega)
    have HOK := hide hok
    have HTI := hide hT
    have HCA : Hid (∀ x ∈ (gridL 400 t2).1, CellAt t2 x ∧ PosC x) := fun x hx => by
     have h1 := (hneed x hx).2.1
     have h2 := grid_in HOK.out 400 x hx
     have h3 := (HP.out).1
     rw [hm] at h2
     have a1 := h2.row
     have a2 := h2.rows
     have a3 := h2.down
     have a4 := h2.col
     have a5 := h2.cols
     have a6 := h2.right
     exact ⟨h1, ⟨by omega, by omega⟩, ⟨by omega, by omega⟩, ⟨by omega, by omega⟩, ⟨by omega, by omega⟩⟩
    obtain ⟨GL, hGL⟩ : ∃ GL, (gridL 400 t2).1 = GL := ⟨_, rfl⟩
    rw [hGL] at hsm HTI HCA hgl
    clear hok hneed hT
    go_wp2_with fail
    refine hO.mono ?_
    rintro e W8 ⟨rfl, hb8⟩
    have HB8 := hide (step HB7.out hb8)
    have HI8 := hide (HI7.out.below hb8)
    have HJ8 := hide (HJ7.out.below hb8)
    obtain ⟨q1, q2, q3, hK⟩ := HCB.out W8 HB8.out
    have hG := impl_GrdOf t2 Ac kc Ar kr W8 q1 q2 q3
    rw [hgr, hm, hGL] at hG
    have f0 := hK.1 0 _ rfl
    have f1 := hK.1 1 _ rfl
    have f2 := hK.1 2 _ rfl
    have f3 := hK.1 3 _ rfl
    have f4 := hK.1 4 _ rfl
    clear g0 g1 g2 g3 g4 hO hb8 hgr hGL hK q1 q2 q3
    go_wp2_with fail
    refine hG.mono ?_
    rintro e W9 ⟨GA, gc, rfl, hown, hb9⟩
    dsimp only at hown ⊢
    have hrd9 := grd_rd hown hsm.out
    obtain ⟨V, hV⟩ : ∃ V, V = W9.alloc (.cells #[.int .i64 t2.rows.length, .int .i64 m, .slice GA GL.length gc] 35) := ⟨_, rfl⟩
    have eV : Below W9.heap.size W9 V := by rw [hV]; exact balloc (brefl _) _
    have HG := hide (hrd9.below eV)
    have HI := hide ((HI8.out.below hb9).below eV)
    have HJ := hide ((HJ8.out.below hb9).below eV)
    have HBV : Hid (Below wr.heap.size wr V) := step (step HB8.out hb9) eV
    have hKG : BlockAt V W9.heap.size [.int .i64 t2.rows.length, .int .i64 m, .slice GA GL.length gc] := by rw [hV]; exact BlockAt.new W9 _ _
    have hzV : W9.heap.size < V.heap.size := by rw [hV]; simp
    have HKG := hide hKG
    have HV := hide hV
    have HTT : Hid (W1.heap.size < W9.heap.size) := by
     have a1 := HB8.out.size
     have a2 := hb9.size
     show _ < _
     omega
    clear f0 f1 f2 f3 f4 hb9 eV hown hrd9 hKG hV hG
    go_wp2_with fail
    rw [← HV.out]
    clear HV HI2 HI3 HI4 HI5 HI6 HI7 HI8 HJ3 HJ4 HJ5 HJ6 HJ7 HJ8 HB2 HB3 HB4 HB5 HB6 HB7 HB8
    have HTW : Hid (W1.heap.size < V.heap.size) := Nat.lt_trans HTT.out hzV
    have HGN := hide (gcN_of HG.out (fun x hx => (HCA.out x hx).2))
    have HLL := hide hlL
    have HLS := hide hlS
    have HGL := hide hgl
    have HNM : Hid (1 ≤ m ∧ m ≤ 90) := hm1
    have HZV := hide hzV
    have HRW : Hid (t2.rows.length ≤ 8) := by have := (HP.out).1; show _ ≤ _; omega
    have HCV : Hid (∀ W, Below V.heap.size V W → Base W ∧ Rd colR W Ac t2.cols ∧ Rd rowR W Ar t2.rows ∧ BlockAt W W1.heap.size [.slice Ac t2.cols.length kc, .int .i64 t2.head, .int .i64 t2.foot, .slice Ar t2.rows.length kr, .int .i64 t2.gap]) := fun W h => HCB.out W (step HBV.out h)
    have HSA : Hid (∀ j : Nat, colSaid t2 j = saidOf t2 j) := fun j => by unfold colSaid; rw [if_pos HOK.out]
    clear HTT hzV HG hlL hlS hgl hm hm1 HP hsm HOK HCB HON HSZ2 HY2 HL HS n1 n2
    go_wp2_with fail
    go_loopg [9, 10, 11, 12, 13] m (fun gg s9 s10 s11 s12 s13 wx => ∃ kx : Nat, kx ≤ m ∧ m - kx ≤ gg ∧ s9 = .int .i64 kx ∧ Aside (Below V.heap.size V wx))
    case atStart => exact ⟨0, Nat.zero_le _, by omega, rfl, brefl _⟩
    case round =>
     obtain ⟨kx, hkx, hgg, rfl, HBX⟩ := hrel
     have hgz : wr.cell? ⟨W9.heap.size, 1, none⟩ = some (.int .i64 m) := keepW HBX.out (HKG.out.1 1 _ rfl)
     by_cases hlt : kx < m
     ·
      have hltz : (kx : Int) < (m : Int) := by omega
      have hkb := HNM.out
      have hSD := fun (W : World) (h : Below wr.heap.size wr W) => impl_ColSaid t2 Ac kc Ar kr kx W (HCV.out W (step HBX.out h)).1 (HCV.out W (step HBX.out h)).2.1 (HCV.out W (step HBX.out h)).2.2.1 (by omega) (by omega)
      rw [HSA.out] at hSD
      have hTI := HTI.out kx hlt
      obtain ⟨sd, hsd⟩ : ∃ sd, saidOf t2 kx = sd := ⟨_, rfl⟩
      rw [hsd] at hSD hTI
      obtain ⟨n0, hn0⟩ : ∃ n0, (if sd.k = 1 then sd.n else 0) = n0 := ⟨_, rfl⟩
      rw [hn0] at hTI
      obtain ⟨q1, q2, q3, hK⟩ := HCV.out wr HBX.out
      have f0 := hK.1 0 _ rfl
      have f1 := hK.1 1 _ rfl
      have f2 := hK.1 2 _ rfl
      have f3 := hK.1 3 _ rfl
      have f4 := hK.1 4 _ rfl
      have HTK := hide hTI
      have HSD := hide hSD
      clear q1 q2 q3 hK hsd hTI hSD
      have hfc := fieldC
      have hfc1 := fieldC1
      go_wp2_with fail
      refine (HSD.out wr (brefl _)).mono ?_
      rintro e WA ⟨rfl, hbA⟩
      have HBA := hide hbA
      have g0 := keepW hbA f0
      have g1 := keepW hbA f1
      have g2 := keepW hbA f2
      have g3 := keepW hbA f3
      have g4 := keepW hbA f4
      clear hbA f0 f1 f2 f3 f4
      obtain ⟨bb, hbb⟩ : ∃ b, (sd.k == 1) = b := ⟨_, rfl⟩
      have hn1 : (if bb = true then sd.n else 0) = n0 := by rw [← hn0, ← hbb]; by_cases h : sd.k = 1 <;> simp [h]
      have HN1 := hide hn1
      clear hn0 hn1
      go_upto_if 107 with fail
      go_cut [10] from 108 to 111 (fun s10 wy => s10 = .int .i64 n0 ∧ Aside (Below wr.heap.size wr wy))
      case first =>
       cases bb with
       | true =>
        have HN0 := hide (show sd.n = n0 by simpa using HN1.out)
        clear hbb
        go_wp2_with fail
        refine (HSD.out WA HBA.out).mono ?_
        rintro e WB ⟨rfl, hbB⟩
        have HBB := hide (step HBA.out hbB)
        clear hbB
        go_wp2_with fail
        go_meet
        case rel => exact ⟨by rw [HN0.out], HBB.out⟩
       | false =>
        have HN0 := hide (show 0 = n0 by simpa using HN1.out)
        clear hbb
        go_wp2_with fail
        go_meet
        case rel => exact ⟨by rw [HN0.out], HBA.out⟩
      case rest =>
      obtain ⟨rfl, HBY⟩ := hcut
      clear g0 g1 g2 g3 g4
      have HBZ := hide (step HBX.out HBY.out)
      have hkg := HKG.out.keep (HBZ.out.block _ HZV.out)
      have g0 := hkg.1 0 _ rfl
      have g1 := hkg.1 1 _ rfl
      have g2 := hkg.1 2 _ rfl
      have hGC := fun (W : World) (h : Below V.heap.size V W) => impl_GrdCol t2.rows.length (m : Int) GL GA gc kx W (HGN.out.below h) HRW.out (by omega)
      obtain ⟨Z, hZ⟩ : ∃ Z, colL GL t2.rows.length kx = Z := ⟨_, rfl⟩
      rw [hZ] at hGC
      have hZI : ∀ x ∈ Z, ∃ q : Nat, x = q ∧ q < GL.length := by rw [← hZ]; exact colL_in GL _ _
      have hZL : Z.length ≤ 8 := by rw [← hZ]; exact Nat.le_trans (chg_length _ _) HRW.out
      have hTK := HTK.out
      rw [hZ] at hTK
      have HTK2 := hide hTK
      have HZI := hide hZI
      have HZL := hide hZL
      clear hZ hTK hZI hZL HSD HTK hkg hgz hkb
      go_wp2_with fail
      refine (hGC _ HBZ.out).mono ?_
      rintro e WC ⟨v, rfl, hIC, hbC⟩
      obtain ⟨AZ, cZ, rfl⟩ := hIC.form
      have HIC := hide (irow_rd hIC)
      have HBC := hide (step HBZ.out hbC)
      clear g0 g1 g2 hIC hbC hGC
      have hmax := max_int
      go_wp2_with fail
      go_loopg [10, 11, 13] Z.length (fun gg s10 s11 s13 wz => ∃ i : Nat, i ≤ Z.length ∧ Z.length - i ≤ gg ∧ s13 = .int .i64 i ∧ s10 = .int .i64 (mostI (fun c => leastT (textOf t2 c)) GL (Z.take i) n0) ∧ s11 = .int .i64 (mostI (fun c => wishT (textOf t2 c)) GL (Z.take i) 0) ∧ Aside (Below WC.heap.size WC wz))
      case atStart => exact ⟨0, Nat.zero_le _, by omega, rfl, rfl, rfl, brefl _⟩
      case round =>
       obtain ⟨i, hi, hgi, rfl, rfl, rfl, HBI⟩ := hrel
       by_cases hlt2 : i < Z.length
       ·
        have hltz2 : (i : Int) < (Z.length : Int) := by omega
        obtain ⟨bZ, oZ, rfl, _, hzi⟩ := rd_int HIC.out HBI.out i hlt2
        obtain ⟨q, hq, hql⟩ := HZI.out _ (List.getElem_mem hlt2)
        have hgd : Z.getD i 0 = (q : Int) := by rw [List.getD_eq_getElem?_getD, List.getElem?_eq_getElem hlt2]; exact hq
        rw [hgd] at hzi
        obtain ⟨xg, hxg⟩ : ∃ x, GL[q] = x := ⟨_, rfl⟩
        have hst : ∀ (nd : GCell → Int) (a : Int), mostI nd GL (Z.take (i + 1)) a = max (mostI nd GL (Z.take i) a) (nd xg) := fun nd a => by
         rw [List.take_succ_eq_append_getElem hlt2, mostI_snoc, hq, Int.toNat_natCast, List.getD_eq_getElem?_getD, List.getElem?_eq_getElem hql, ← hxg]; rfl
        have hst1 := hst (fun c => leastT (textOf t2 c)) n0
        have hst2 := hst (fun c => wishT (textOf t2 c)) 0
        obtain ⟨m1, hm1⟩ : ∃ m1, mostI (fun c => leastT (textOf t2 c)) GL (Z.take i) n0 = m1 := ⟨_, rfl⟩
        obtain ⟨m2, hm2⟩ : ∃ m2, mostI (fun c => wishT (textOf t2 c)) GL (Z.take i) 0 = m2 := ⟨_, rfl⟩
        rw [hm1] at hst1 ⊢
        rw [hm2] at hst2 ⊢
        have hCA := (HCA.out xg (by rw [← hxg]; exact List.getElem_mem hql)).1
        have HBK := hide (step HBC.out HBI.out)
        obtain ⟨bG, oG, eG, hbg, k0, k1, k2, k3, k4⟩ := rd_gcell HGN.out q hql
        subst eG
        rw [hxg] at k0 k1 k2 k3 k4
        have HST1 := hide hst1
        have HST2 := hide hst2
        have HPT : Hid (∀ W, Below V.heap.size V W → Calls Tryz.prog 24 #[.agg #[.slice Ac t2.cols.length kc, .int .i64 t2.head, .int .i64 t2.foot, .slice Ar t2.rows.length kr, .int .i64 t2.gap], .agg #[.int .i64 xg.row, .int .i64 xg.col, .int .i64 xg.rows, .int .i64 xg.cols, .int .i64 xg.inn]] W fun e w' => e = .returned (.string (textOf t2 xg)) ∧ Below W.heap.size W w') := fun W h => laws_pwText t2 Ac kc Ar kr xg W (HCV.out W h).2.2.1 hCA
        have hts : (textOf t2 xg).size ≤ 1048576 := by
         obtain ⟨_, _, _, _, _, _, _, _, _, _, _, _, _, _, _, h9⟩ := text_at (HCV.out V (brefl V)).2.2.1 hCA
         exact h9
        have HTL : Hid (∀ W, Below V.heap.size V W → Calls Tryz.prog 23 #[.string (textOf t2 xg)] W fun e w' => e = .returned (.int .i64 (leastT (textOf t2 xg))) ∧ Below W.heap.size W w') := fun W h => impl_TxtLeast (textOf t2 xg) W hts (HCV.out W h).1
        have HTW2 : Hid (∀ W, Below V.heap.size V W → Calls Tryz.prog 29 #[.string (textOf t2 xg)] W fun e w' => e = .returned (.int .i64 (wishT (textOf t2 xg))) ∧ Below W.heap.size W w') := fun W h => impl_TxtWish (textOf t2 xg) W hts (HCV.out W h).1
        have hql2 : (q : Int) < (GL.length : Int) := by omega
        obtain ⟨q1, q2, q3, hK⟩ := HCV.out wr HBK.out
        have f0 := hK.1 0 _ rfl
        have f1 := hK.1 1 _ rfl
        have f2 := hK.1 2 _ rfl
        have f3 := hK.1 3 _ rfl
        have f4 := hK.1 4 _ rfl
        have hkg := HKG.out.keep (HBK.out.block _ HZV.out)
        have g2 := hkg.1 2 _ rfl
        have y0 := keepW HBK.out k0
        have y1 := keepW HBK.out k1
        have y2 := keepW HBK.out k2
        have y3 := keepW HBK.out k3
        have y4 := keepW HBK.out k4
        generalize textOf t2 xg = tx at HPT HTL HTW2 HST1 HST2
        generalize leastT tx = lt at HTL HST1
        generalize wishT tx = wt at HTW2 HST2
        clear hst hst1 hst2 hm1 hm2 hgd hq hxg hCA hts q1 q2 q3 hK hkg k0 k1 k2 k3 k4
        go_upto_region 30 with fail
        have ed := bdrew (brefl wr)
        have HBD := hide (bdrew HBI.out)
        have HVD := hide (bdrew HBK.out)
        have z0 := keepW ed f0
        have z1 := keepW ed f1
        have z2 := keepW ed f2
        have z3 := keepW ed f3
        have z4 := keepW ed f4
        have zg2 := keepW ed g2
        have zz := keepW ed hzi
        have y0d := keepW ed y0
        have y1d := keepW ed y1
        have y2d := keepW ed y2
        have y3d := keepW ed y3
        have y4d := keepW ed y4
        have HPTd := hide (fun (W : World) (h : Below wr.drew.heap.size wr.drew W) => HPT.out W (step HVD.out h))
        have HTLd := hide (fun (W : World) (h : Below wr.drew.heap.size wr.drew W) => HTL.out W (step HVD.out h))
        clear ed f0 f1 f2 f3 f4 g2 hzi y0 y1 y2 y3 y4
        obtain ⟨KF, hKF⟩ : ∃ f : Nat → Value → World → Prop, f = (fun j v W => match j with | 0 => v = .int .i64 m1 | 1 => v = .agg #[.slice Ac t2.cols.length kc, .int .i64 t2.head, .int .i64 t2.foot, .slice Ar t2.rows.length kr, .int .i64 t2.gap] | 2 => v = .pointer (some ⟨W9.heap.size, 2, none⟩) | 3 => v = .slice (some ⟨bG, oG, none⟩) GL.length gc | 4 => v = .slice (some ⟨bZ, oZ, none⟩) Z.length cZ | 5 => v = .int .i64 ↑i | 6 => v = .pointer (some ⟨bZ, oZ + i, none⟩) | 7 => v = .int .i64 q | 8 => v = .pointer (some ⟨bG, oG + q * 5, none⟩) | 9 => v = .agg #[.int .i64 xg.row, .int .i64 xg.col, .int .i64 xg.rows, .int .i64 xg.cols, .int .i64 xg.inn] | 10 => v = .string tx | 11 => v = .int .i64 lt | _ => True) := ⟨_, rfl⟩
        have k0 : ∀ v W, KF 0 v W ↔ (v = .int .i64 m1) := fun v W => by rw [hKF]; first | done | exact Iff.rfl
        have k1 : ∀ v W, KF 1 v W ↔ (v = .agg #[.slice Ac t2.cols.length kc, .int .i64 t2.head, .int .i64 t2.foot, .slice Ar t2.rows.length kr, .int .i64 t2.gap]) := fun v W => by rw [hKF]; first | done | exact Iff.rfl
        have k2 : ∀ v W, KF 2 v W ↔ (v = .pointer (some ⟨W9.heap.size, 2, none⟩)) := fun v W => by rw [hKF]; first | done | exact Iff.rfl
        have k3 : ∀ v W, KF 3 v W ↔ (v = .slice (some ⟨bG, oG, none⟩) GL.length gc) := fun v W => by rw [hKF]; first | done | exact Iff.rfl
        have k4 : ∀ v W, KF 4 v W ↔ (v = .slice (some ⟨bZ, oZ, none⟩) Z.length cZ) := fun v W => by rw [hKF]; first | done | exact Iff.rfl
        have k5 : ∀ v W, KF 5 v W ↔ (v = .int .i64 ↑i) := fun v W => by rw [hKF]; first | done | exact Iff.rfl
        have k6 : ∀ v W, KF 6 v W ↔ (v = .pointer (some ⟨bZ, oZ + i, none⟩)) := fun v W => by rw [hKF]; first | done | exact Iff.rfl
        have k7 : ∀ v W, KF 7 v W ↔ (v = .int .i64 q) := fun v W => by rw [hKF]; first | done | exact Iff.rfl
        have k8 : ∀ v W, KF 8 v W ↔ (v = .pointer (some ⟨bG, oG + q * 5, none⟩)) := fun v W => by rw [hKF]; first | done | exact Iff.rfl
        have k9 : ∀ v W, KF 9 v W ↔ (v = .agg #[.int .i64 xg.row, .int .i64 xg.col, .int .i64 xg.rows, .int .i64 xg.cols, .int .i64 xg.inn]) := fun v W => by rw [hKF]; first | done | exact Iff.rfl
        have k10 : ∀ v W, KF 10 v W ↔ (v = .string tx) := fun v W => by rw [hKF]; first | done | exact Iff.rfl
        have k11 : ∀ v W, KF 11 v W ↔ (v = .int .i64 lt) := fun v W => by rw [hKF]; first | done | exact Iff.rfl
        have HST : StableP KF := by
         rw [hKF]
         intro j v W W9 h hb
         by_cases hjn : j < 14
         ·
          obtain rfl | rfl | rfl | rfl | rfl | rfl | rfl | rfl | rfl | rfl | rfl | rfl | rfl | rfl : j = 0 ∨ j = 1 ∨ j = 2 ∨ j = 3 ∨ j = 4 ∨ j = 5 ∨ j = 6 ∨ j = 7 ∨ j = 8 ∨ j = 9 ∨ j = 10 ∨ j = 11 ∨ j = 12 ∨ j = 13 := by omega
          ·
           exact h
          ·
           exact h
          ·
           exact h
          ·
           exact h
          ·
           exact h
          ·
           exact h
          ·
           exact h
          ·
           exact h
          ·
           exact h
          ·
           exact h
          ·
           exact h
          ·
           exact h
          ·
           exact trivial
          ·
           exact trivial
         ·
          match j, h with
          | 0, h => exact absurd (by decide) hjn
          | 1, h => exact absurd (by decide) hjn
          | 2, h => exact absurd (by decide) hjn
          | 3, h => exact absurd (by decide) hjn
          | 4, h => exact absurd (by decide) hjn
          | 5, h => exact absurd (by decide) hjn
          | 6, h => exact absurd (by decide) hjn
          | 7, h => exact absurd (by decide) hjn
          | 8, h => exact absurd (by decide) hjn
          | 9, h => exact absurd (by decide) hjn
          | 10, h => exact absurd (by decide) hjn
          | 11, h => exact absurd (by decide) hjn
          | 12, h => exact absurd (by decide) hjn
          | 13, h => exact absurd (by decide) hjn
          | _ + 14, h => exact h
        clear hKF
        obtain ⟨dep, hdep⟩ : ∃ f : Nat → List Nat, f = (fun j => match j with | 3 => [2] | 6 => [4, 5] | 7 => [6] | 8 => [3, 7] | 9 => [8] | 10 => [1, 9] | 11 => [10] | 12 => [0, 11] | 13 => [12, 11] | _ => []) := ⟨_, rfl⟩
        have d0 : dep 0 = [] := congrFun hdep 0
        have d1 : dep 1 = [] := congrFun hdep 1
        have d2 : dep 2 = [] := congrFun hdep 2
        have d3 : dep 3 = [2] := congrFun hdep 3
        have d4 : dep 4 = [] := congrFun hdep 4
        have d5 : dep 5 = [] := congrFun hdep 5
        have d6 : dep 6 = [4, 5] := congrFun hdep 6
        have d7 : dep 7 = [6] := congrFun hdep 7
        have d8 : dep 8 = [3, 7] := congrFun hdep 8
        have d9 : dep 9 = [8] := congrFun hdep 9
        have d10 : dep 10 = [1, 9] := congrFun hdep 10
        have d11 : dep 11 = [10] := congrFun hdep 11
        have d12 : dep 12 = [0, 11] := congrFun hdep 12
        have d13 : dep 13 = [12, 11] := congrFun hdep 13
        clear hdep
        have HLD : LastP 14 12 dep := by
         intro L hc _ k12
         have k11 : L 11 := hc 12 k12 11 (by rw [d12]; simp)
         have k10 : L 10 := hc 11 k11 10 (by rw [d11]; simp)
         have k9 : L 9 := hc 10 k10 9 (by rw [d10]; simp)
         have k8 : L 8 := hc 9 k9 8 (by rw [d9]; simp)
         have k7 : L 7 := hc 8 k8 7 (by rw [d8]; simp)
         have k6 : L 6 := hc 7 k7 6 (by rw [d7]; simp)
         have k5 : L 5 := hc 6 k6 5 (by rw [d6]; simp)
         have k4 : L 4 := hc 6 k6 4 (by rw [d6]; simp)
         have k3 : L 3 := hc 8 k8 3 (by rw [d8]; simp)
         have k2 : L 2 := hc 3 k3 2 (by rw [d3]; simp)
         have k1 : L 1 := hc 10 k10 1 (by rw [d10]; simp)
         have k0 : L 0 := hc 12 k12 0 (by rw [d12]; simp)
         intro j hj
         obtain rfl | rfl | rfl | rfl | rfl | rfl | rfl | rfl | rfl | rfl | rfl | rfl : j = 0 ∨ j = 1 ∨ j = 2 ∨ j = 3 ∨ j = 4 ∨ j = 5 ∨ j = 6 ∨ j = 7 ∨ j = 8 ∨ j = 9 ∨ j = 10 ∨ j = 11 := by omega
         all_goals assumption
        obtain ⟨st, hst⟩ : ∃ f : Nat → Value, f = (fun j => match j with | 0 => u121 | 1 => u122 | 2 => u123 | 3 => u124 | 4 => u125 | 5 => u126 | 6 => u127 | 7 => u128 | 8 => u129 | 9 => u130 | 10 => u131 | 11 => u132 | 12 => u133 | 13 => .int .i64 m1 | _ => undef) := ⟨_, rfl⟩
        have st0 : st 0 = u121 := congrFun hst 0
        have st1 : st 1 = u122 := congrFun hst 1
        have st2 : st 2 = u123 := congrFun hst 2
        have st3 : st 3 = u124 := congrFun hst 3
        have st4 : st 4 = u125 := congrFun hst 4
        have st5 : st 5 = u126 := congrFun hst 5
        have st6 : st 6 = u127 := congrFun hst 6
        have st7 : st 7 = u128 := congrFun hst 7
        have st8 : st 8 = u129 := congrFun hst 8
        have st9 : st 9 = u130 := congrFun hst 9
        have st10 : st 10 = u131 := congrFun hst 10
        have st11 : st 11 = u132 := congrFun hst 11
        have st12 : st 12 = u133 := congrFun hst 12
        have st13 : st 13 = .int .i64 m1 := congrFun hst 13
        refine wp_region_inv (fun l a W => ∃ vs : Nat → Value, a = ⟨List.toArray (.slice A n c :: undef :: u2 :: .pointer (some ⟨W1.heap.size, 0, none⟩) :: .int .i64 ↑t.rows.length :: u5 :: .slice AL m cL :: .slice AS m cS :: .pointer (some ⟨W9.heap.size, 0, none⟩) :: .int .i64 ↑kx :: vs 13 :: .int .i64 m2 :: .slice (some ⟨bZ, oZ, none⟩) Z.length cZ :: .int .i64 ↑i :: .slice A n c :: .int .i64 ↑n :: .bool false :: .slice A n c :: .agg #[.slice Ac t.cols.length kc, .int .i64 t.head, .int .i64 t.foot, .slice Ar t.rows.length kr, .int .i64 t.gap] :: .int .i64 ↑t.rows.length :: .pointer (some ⟨W1.heap.size, 3, none⟩) :: .slice Ar t2.rows.length kr :: .int .i64 ↑t2.rows.length :: .bool false :: u24 :: u25 :: u26 :: u27 :: u28 :: u29 :: u30 :: u31 :: u32 :: u33 :: u34 :: u35 :: u36 :: u37 :: u38 :: u39 :: u40 :: u41 :: u42 :: u43 :: u44 :: u45 :: u46 :: u47 :: u48 :: u49 :: u50 :: u51 :: u52 :: u53 :: u54 :: u55 :: u56 :: u57 :: u58 :: u59 :: u60 :: u61 :: u62 :: u63 :: u64 :: u65 :: u66 :: u67 :: u68 :: u69 :: .agg #[.slice Ac t2.cols.length kc, .int .i64 t2.head, .int .i64 t2.foot, .slice Ar t2.rows.length kr, .int .i64 t2.gap] :: .slice AL m cL :: .agg #[.slice Ac t2.cols.length kc, .int .i64 t2.head, .int .i64 t2.foot, .slice Ar t2.rows.length kr, .int .i64 t2.gap] :: .slice AS m cS :: .slice AL m cL :: .agg #[.slice Ac t2.cols.length kc, .int .i64 t2.head, .int .i64 t2.foot, .slice Ar t2.rows.length kr, .int .i64 t2.gap] :: .slice AM m cM :: .bool true :: .bool false :: .bool false :: .slice AS m cS :: .agg #[.slice Ac t2.cols.length kc, .int .i64 t2.head, .int .i64 t2.foot, .slice Ar t2.rows.length kr, .int .i64 t2.gap] :: .slice AN m cN :: .bool true :: .bool false :: .bool false :: .agg #[.slice Ac t2.cols.length kc, .int .i64 t2.head, .int .i64 t2.foot, .slice Ar t2.rows.length kr, .int .i64 t2.gap] :: .bool true :: .bool false :: undef :: undef :: undef :: undef :: undef :: undef :: .agg #[.slice Ac t2.cols.length kc, .int .i64 t2.head, .int .i64 t2.foot, .slice Ar t2.rows.length kr, .int .i64 t2.gap] :: .agg #[.int .i64 ↑t2.rows.length, .int .i64 ↑m, .slice (some ⟨bG, oG, none⟩) GL.length gc] :: .int .i64 ↑kx :: .pointer (some ⟨W9.heap.size, 1, none⟩) :: .int .i64 ↑m :: .bool true :: u101 :: u102 :: .agg #[.slice Ac t2.cols.length kc, .int .i64 t2.head, .int .i64 t2.foot, .slice Ar t2.rows.length kr, .int .i64 t2.gap] :: .int .i64 ↑kx :: .agg #[.int .i64 sd.k, .int .i64 sd.n] :: .int .i64 sd.k :: .bool bb :: u108 :: u109 :: u110 :: u111 :: .agg #[.int .i64 ↑t2.rows.length, .int .i64 ↑m, .slice (some ⟨bG, oG, none⟩) GL.length gc] :: .int .i64 ↑kx :: .slice (some ⟨bZ, oZ, none⟩) Z.length cZ :: .int .i64 ↑i :: .slice (some ⟨bZ, oZ, none⟩) Z.length cZ :: .int .i64 ↑Z.length :: .bool true :: u119 :: u120 :: vs 0 :: vs 1 :: vs 2 :: vs 3 :: vs 4 :: vs 5 :: vs 6 :: vs 7 :: vs 8 :: vs 9 :: vs 10 :: vs 11 :: vs 12 :: u134 :: u135 :: u136 :: u137 :: u138 :: u139 :: u140 :: u141 :: u142 :: u143 :: u144 :: u145 :: u146 :: u147 :: u148 :: u149 :: u150 :: u151 :: u152 :: u153 :: u154 :: u155 :: u156 :: u157 :: u158 :: u159 :: u160 :: u161 :: u162 :: []), []⟩ ∧ PMid KF 14 12 dep (wr.drew) (fun W v W2 => v = .int .i64 (max m1 lt) ∧ W2 = W) st l vs W) (by kernel_rfl) ?top ?start ?step ?fin
        case top =>
         clear k0 k1 k2 k3 k4 k5 k6 k7 k8 k9 k10 k11 d0 d1 d2 d3 d4 d5 d6 d7 d8 d9 d10 d11 d12 d13 hst st0 st1 st2 st3 st4 st5 st6 st7 st8 st9 st10 st11 st12 st13
         intro j o ho e he
         have hj : j < 14 := (Array.getElem?_eq_some_iff.1 ho).1
         have hA : (o.after.all fun e => decide (e.on < j)) = true := by
          obtain rfl | rfl | rfl | rfl | rfl | rfl | rfl | rfl | rfl | rfl | rfl | rfl | rfl | rfl : j = 0 ∨ j = 1 ∨ j = 2 ∨ j = 3 ∨ j = 4 ∨ j = 5 ∨ j = 6 ∨ j = 7 ∨ j = 8 ∨ j = 9 ∨ j = 10 ∨ j = 11 ∨ j = 12 ∨ j = 13 := by omega
          all_goals
           simp only [List.getElem?_toArray, List.getElem?_cons_zero, List.getElem?_cons_succ, Option.some.injEq] at ho
           subst ho
           first | decide | kernel_rfl | simp
         simpa using Array.all_eq_true'.1 hA e he
        case start => exact ⟨st, by rw [hst]; first | done | rfl, PMid.start⟩
        case step =>
         rintro l a W i o ho hl hpre hsz ⟨vs, rfl, hM0⟩ K hK
         have hi : i < 14 := (Array.getElem?_eq_some_iff.1 ho).1
         obtain rfl | rfl | rfl | rfl | rfl | rfl | rfl | rfl | rfl | rfl | rfl | rfl | rfl | rfl : i = 0 ∨ i = 1 ∨ i = 2 ∨ i = 3 ∨ i = 4 ∨ i = 5 ∨ i = 6 ∨ i = 7 ∨ i = 8 ∨ i = 9 ∨ i = 10 ∨ i = 11 ∨ i = 12 ∨ i = 13 := by omega
         ·
          simp only [List.getElem?_toArray, List.getElem?_cons_zero, List.getElem?_cons_succ, Option.some.injEq] at ho
          subst ho
          have hMB := hM0.below HLD hi (by decide) hl
          have hMG := hM0.get HLD hi (by decide) hl
          have v13 : vs 13 = .int .i64 m1 := (hM0.getStale HLD hi (by decide) hl 13 (by decide)).trans st13
          have hdp : ∀ e ∈ dep 0, l.getD e false = true := by rw [d0]; exact dep_nil
          have e := k0
          clear k0 k1 k2 k3 k4 k5 k6 k7 k8 k9 k10 k11 d0 d1 d2 d3 d4 d5 d6 d7 d8 d9 d10 d11 d12 d13 hst st0 st1 st2 st3 st4 st5 st6 st7 st8 st9 st10 st11 st12 st13
          rw [v13]
          go_simp
          exact hK.out _ _ ⟨updV vs 0 (.int .i64 m1), (by simp [updV, v13]), hM0.still HLD HST 0 (by decide) (by decide) hl _ hdp ((e _ _).2 rfl)⟩
         ·
          simp only [List.getElem?_toArray, List.getElem?_cons_zero, List.getElem?_cons_succ, Option.some.injEq] at ho
          subst ho
          have hMB := hM0.below HLD hi (by decide) hl
          have hMG := hM0.get HLD hi (by decide) hl
          have hdp : ∀ e ∈ dep 1, l.getD e false = true := by rw [d1]; exact dep_nil
          have e := k1
          clear k0 k1 k2 k3 k4 k5 k6 k7 k8 k9 k10 k11 d0 d1 d2 d3 d4 d5 d6 d7 d8 d9 d10 d11 d12 d13 hst st0 st1 st2 st3 st4 st5 st6 st7 st8 st9 st10 st11 st12 st13
          have x0 := keepW hMB z0
          have x1 := keepW hMB z1
          have x2 := keepW hMB z2
          have x3 := keepW hMB z3
          have x4 := keepW hMB z4
          go_simp
          exact hK.out _ _ ⟨updV vs 1 (.agg #[.slice Ac t2.cols.length kc, .int .i64 t2.head, .int .i64 t2.foot, .slice Ar t2.rows.length kr, .int .i64 t2.gap]), rfl, hM0.still HLD HST 1 (by decide) (by decide) hl _ hdp ((e _ _).2 rfl)⟩
         ·
          simp only [List.getElem?_toArray, List.getElem?_cons_zero, List.getElem?_cons_succ, Option.some.injEq] at ho
          subst ho
          have hMB := hM0.below HLD hi (by decide) hl
          have hMG := hM0.get HLD hi (by decide) hl
          have hdp : ∀ e ∈ dep 2, l.getD e false = true := by rw [d2]; exact dep_nil
          have e := k2
          clear k0 k1 k2 k3 k4 k5 k6 k7 k8 k9 k10 k11 d0 d1 d2 d3 d4 d5 d6 d7 d8 d9 d10 d11 d12 d13 hst st0 st1 st2 st3 st4 st5 st6 st7 st8 st9 st10 st11 st12 st13
          go_simp
          exact hK.out _ _ ⟨updV vs 2 (.pointer (some ⟨W9.heap.size, 2, none⟩)), rfl, hM0.still HLD HST 2 (by decide) (by decide) hl _ hdp ((e _ _).2 rfl)⟩
         ·
          simp only [List.getElem?_toArray, List.getElem?_cons_zero, List.getElem?_cons_succ, Option.some.injEq] at ho
          subst ho
          have hMB := hM0.below HLD hi (by decide) hl
          have hMG := hM0.get HLD hi (by decide) hl
          have v2 : vs 2 = .pointer (some ⟨W9.heap.size, 2, none⟩) := (k2 _ _).1 (hMG 2 (by decide) (hpre ⟨2, .data⟩ (by simp) rfl))
          have hdp : ∀ e ∈ dep 3, l.getD e false = true := by rw [d3]; exact (dep_cons (hpre ⟨2, .data⟩ (by simp) rfl) dep_nil)
          have e := k3
          clear k0 k1 k2 k3 k4 k5 k6 k7 k8 k9 k10 k11 d0 d1 d2 d3 d4 d5 d6 d7 d8 d9 d10 d11 d12 d13 hst st0 st1 st2 st3 st4 st5 st6 st7 st8 st9 st10 st11 st12 st13
          have x0 := keepW hMB zg2
          rw [v2]
          go_simp
          exact hK.out _ _ ⟨updV vs 3 (.slice (some ⟨bG, oG, none⟩) GL.length gc), (by simp [updV, v2]), hM0.still HLD HST 3 (by decide) (by decide) hl _ hdp ((e _ _).2 rfl)⟩
         ·
          simp only [List.getElem?_toArray, List.getElem?_cons_zero, List.getElem?_cons_succ, Option.some.injEq] at ho
          subst ho
          have hMB := hM0.below HLD hi (by decide) hl
          have hMG := hM0.get HLD hi (by decide) hl
          have hdp : ∀ e ∈ dep 4, l.getD e false = true := by rw [d4]; exact dep_nil
          have e := k4
          clear k0 k1 k2 k3 k4 k5 k6 k7 k8 k9 k10 k11 d0 d1 d2 d3 d4 d5 d6 d7 d8 d9 d10 d11 d12 d13 hst st0 st1 st2 st3 st4 st5 st6 st7 st8 st9 st10 st11 st12 st13
          go_simp
          exact hK.out _ _ ⟨updV vs 4 (.slice (some ⟨bZ, oZ, none⟩) Z.length cZ), rfl, hM0.still HLD HST 4 (by decide) (by decide) hl _ hdp ((e _ _).2 rfl)⟩
         ·
          simp only [List.getElem?_toArray, List.getElem?_cons_zero, List.getElem?_cons_succ, Option.some.injEq] at ho
          subst ho
          have hMB := hM0.below HLD hi (by decide) hl
          have hMG := hM0.get HLD hi (by decide) hl
          have hdp : ∀ e ∈ dep 5, l.getD e false = true := by rw [d5]; exact dep_nil
          have e := k5
          clear k0 k1 k2 k3 k4 k5 k6 k7 k8 k9 k10 k11 d0 d1 d2 d3 d4 d5 d6 d7 d8 d9 d10 d11 d12 d13 hst st0 st1 st2 st3 st4 st5 st6 st7 st8 st9 st10 st11 st12 st13
          go_simp
          exact hK.out _ _ ⟨updV vs 5 (.int .i64 ↑i), rfl, hM0.still HLD HST 5 (by decide) (by decide) hl _ hdp ((e _ _).2 rfl)⟩
         ·
          simp only [List.getElem?_toArray, List.getElem?_cons_zero, List.getElem?_cons_succ, Option.some.injEq] at ho
          subst ho
          have hMB := hM0.below HLD hi (by decide) hl
          have hMG := hM0.get HLD hi (by decide) hl
          have v4 : vs 4 = .slice (some ⟨bZ, oZ, none⟩) Z.length cZ := (k4 _ _).1 (hMG 4 (by decide) (hpre ⟨4, .data⟩ (by simp) rfl))
          have v5 : vs 5 = .int .i64 ↑i := (k5 _ _).1 (hMG 5 (by decide) (hpre ⟨5, .data⟩ (by simp) rfl))
          have hdp : ∀ e ∈ dep 6, l.getD e false = true := by rw [d6]; exact (dep_cons (hpre ⟨4, .data⟩ (by simp) rfl) (dep_cons (hpre ⟨5, .data⟩ (by simp) rfl) dep_nil))
          have e := k6
          clear k0 k1 k2 k3 k4 k5 k6 k7 k8 k9 k10 k11 d0 d1 d2 d3 d4 d5 d6 d7 d8 d9 d10 d11 d12 d13 hst st0 st1 st2 st3 st4 st5 st6 st7 st8 st9 st10 st11 st12 st13
          rw [v4, v5]
          go_simp
          exact hK.out _ _ ⟨updV vs 6 (.pointer (some ⟨bZ, oZ + i, none⟩)), (by simp [updV, v4, v5]), hM0.still HLD HST 6 (by decide) (by decide) hl _ hdp ((e _ _).2 rfl)⟩
         ·
          simp only [List.getElem?_toArray, List.getElem?_cons_zero, List.getElem?_cons_succ, Option.some.injEq] at ho
          subst ho
          have hMB := hM0.below HLD hi (by decide) hl
          have hMG := hM0.get HLD hi (by decide) hl
          have v6 : vs 6 = .pointer (some ⟨bZ, oZ + i, none⟩) := (k6 _ _).1 (hMG 6 (by decide) (hpre ⟨6, .data⟩ (by simp) rfl))
          have hdp : ∀ e ∈ dep 7, l.getD e false = true := by rw [d7]; exact (dep_cons (hpre ⟨6, .data⟩ (by simp) rfl) dep_nil)
          have e := k7
          clear k0 k1 k2 k3 k4 k5 k6 k7 k8 k9 k10 k11 d0 d1 d2 d3 d4 d5 d6 d7 d8 d9 d10 d11 d12 d13 hst st0 st1 st2 st3 st4 st5 st6 st7 st8 st9 st10 st11 st12 st13
          have x0 := keepW hMB zz
          rw [v6]
          go_simp
          exact hK.out _ _ ⟨updV vs 7 (.int .i64 q), (by simp [updV, v6]), hM0.still HLD HST 7 (by decide) (by decide) hl _ hdp ((e _ _).2 rfl)⟩
         ·
          simp only [List.getElem?_toArray, List.getElem?_cons_zero, List.getElem?_cons_succ, Option.some.injEq] at ho
          subst ho
          have hMB := hM0.below HLD hi (by decide) hl
          have hMG := hM0.get HLD hi (by decide) hl
          have v3 : vs 3 = .slice (some ⟨bG, oG, none⟩) GL.length gc := (k3 _ _).1 (hMG 3 (by decide) (hpre ⟨3, .data⟩ (by simp) rfl))
          have v7 : vs 7 = .int .i64 q := (k7 _ _).1 (hMG 7 (by decide) (hpre ⟨7, .data⟩ (by simp) rfl))
          have hdp : ∀ e ∈ dep 8, l.getD e false = true := by rw [d8]; exact (dep_cons (hpre ⟨3, .data⟩ (by simp) rfl) (dep_cons (hpre ⟨7, .data⟩ (by simp) rfl) dep_nil))
          have e := k8
          clear k0 k1 k2 k3 k4 k5 k6 k7 k8 k9 k10 k11 d0 d1 d2 d3 d4 d5 d6 d7 d8 d9 d10 d11 d12 d13 hst st0 st1 st2 st3 st4 st5 st6 st7 st8 st9 st10 st11 st12 st13
          rw [v3, v7]
          go_simp
          exact hK.out _ _ ⟨updV vs 8 (.pointer (some ⟨bG, oG + q * 5, none⟩)), (by simp [updV, v3, v7]), hM0.still HLD HST 8 (by decide) (by decide) hl _ hdp ((e _ _).2 rfl)⟩
         ·
          simp only [List.getElem?_toArray, List.getElem?_cons_zero, List.getElem?_cons_succ, Option.some.injEq] at ho
          subst ho
          have hMB := hM0.below HLD hi (by decide) hl
          have hMG := hM0.get HLD hi (by decide) hl
          have v8 : vs 8 = .pointer (some ⟨bG, oG + q * 5, none⟩) := (k8 _ _).1 (hMG 8 (by decide) (hpre ⟨8, .data⟩ (by simp) rfl))
          have hdp : ∀ e ∈ dep 9, l.getD e false = true := by rw [d9]; exact (dep_cons (hpre ⟨8, .data⟩ (by simp) rfl) dep_nil)
          have e := k9
          clear k0 k1 k2 k3 k4 k5 k6 k7 k8 k9 k10 k11 d0 d1 d2 d3 d4 d5 d6 d7 d8 d9 d10 d11 d12 d13 hst st0 st1 st2 st3 st4 st5 st6 st7 st8 st9 st10 st11 st12 st13
          have x0 := keepW hMB y0d
          have x1 := keepW hMB y1d
          have x2 := keepW hMB y2d
          have x3 := keepW hMB y3d
          have x4 := keepW hMB y4d
          rw [v8]
          go_simp
          exact hK.out _ _ ⟨updV vs 9 (.agg #[.int .i64 xg.row, .int .i64 xg.col, .int .i64 xg.rows, .int .i64 xg.cols, .int .i64 xg.inn]), (by simp [updV, v8]), hM0.still HLD HST 9 (by decide) (by decide) hl _ hdp ((e _ _).2 rfl)⟩
         ·
          simp only [List.getElem?_toArray, List.getElem?_cons_zero, List.getElem?_cons_succ, Option.some.injEq] at ho
          subst ho
          have hMB := hM0.below HLD hi (by decide) hl
          have hMG := hM0.get HLD hi (by decide) hl
          have v1 : vs 1 = .agg #[.slice Ac t2.cols.length kc, .int .i64 t2.head, .int .i64 t2.foot, .slice Ar t2.rows.length kr, .int .i64 t2.gap] := (k1 _ _).1 (hMG 1 (by decide) (hpre ⟨1, .data⟩ (by simp) rfl))
          have v9 : vs 9 = .agg #[.int .i64 xg.row, .int .i64 xg.col, .int .i64 xg.rows, .int .i64 xg.cols, .int .i64 xg.inn] := (k9 _ _).1 (hMG 9 (by decide) (hpre ⟨9, .data⟩ (by simp) rfl))
          have hdp : ∀ e ∈ dep 10, l.getD e false = true := by rw [d10]; exact (dep_cons (hpre ⟨1, .data⟩ (by simp) rfl) (dep_cons (hpre ⟨9, .data⟩ (by simp) rfl) dep_nil))
          have e := k10
          clear k0 k1 k2 k3 k4 k5 k6 k7 k8 k9 k10 k11 d0 d1 d2 d3 d4 d5 d6 d7 d8 d9 d10 d11 d12 d13 hst st0 st1 st2 st3 st4 st5 st6 st7 st8 st9 st10 st11 st12 st13
          rw [v1, v9]
          go_simp
          refine (HPTd.out _ hMB).mono ?_
          rintro e5 W5 ⟨rfl, hb5⟩
          exact hK.out _ _ ⟨updV vs 10 (.string tx), (by simp [updV, v1, v9]), hM0.next HLD HST 10 (by decide) (by decide) hl _ hdp hb5 ((e _ _).2 rfl)⟩
         ·
          simp only [List.getElem?_toArray, List.getElem?_cons_zero, List.getElem?_cons_succ, Option.some.injEq] at ho
          subst ho
          have hMB := hM0.below HLD hi (by decide) hl
          have hMG := hM0.get HLD hi (by decide) hl
          have v10 : vs 10 = .string tx := (k10 _ _).1 (hMG 10 (by decide) (hpre ⟨10, .data⟩ (by simp) rfl))
          have hdp : ∀ e ∈ dep 11, l.getD e false = true := by rw [d11]; exact (dep_cons (hpre ⟨10, .data⟩ (by simp) rfl) dep_nil)
          have e := k11
          clear k0 k1 k2 k3 k4 k5 k6 k7 k8 k9 k10 k11 d0 d1 d2 d3 d4 d5 d6 d7 d8 d9 d10 d11 d12 d13 hst st0 st1 st2 st3 st4 st5 st6 st7 st8 st9 st10 st11 st12 st13
          rw [v10]
          go_simp
          refine (HTLd.out _ hMB).mono ?_
          rintro e5 W5 ⟨rfl, hb5⟩
          exact hK.out _ _ ⟨updV vs 11 (.int .i64 lt), (by simp [updV, v10]), hM0.next HLD HST 11 (by decide) (by decide) hl _ hdp hb5 ((e _ _).2 rfl)⟩
         ·
          simp only [List.getElem?_toArray, List.getElem?_cons_zero, List.getElem?_cons_succ, Option.some.injEq] at ho
          subst ho
          have hMB := hM0.below HLD hi (by decide) hl
          have hMG := hM0.get HLD hi (by decide) hl
          have v0 : vs 0 = .int .i64 m1 := (k0 _ _).1 (hMG 0 (by decide) (hpre ⟨0, .data⟩ (by simp) rfl))
          have v11 : vs 11 = .int .i64 lt := (k11 _ _).1 (hMG 11 (by decide) (hpre ⟨11, .data⟩ (by simp) rfl))
          have hdp : ∀ e ∈ dep 12, l.getD e false = true := by rw [d12]; exact (dep_cons (hpre ⟨0, .data⟩ (by simp) rfl) (dep_cons (hpre ⟨11, .data⟩ (by simp) rfl) dep_nil))
          have hno : ∀ j, 12 < j → l.getD j false = true → 12 ∈ dep j := by
           intro j hj hj2
           have hjn : j < 14 := by have := getD_over hj2; rw [hM0.size] at this; exact this
           obtain rfl : j = 13 := by omega
           ·
            rw [d13]; simp
          clear k0 k1 k2 k3 k4 k5 k6 k7 k8 k9 k10 k11 d0 d1 d2 d3 d4 d5 d6 d7 d8 d9 d10 d11 d12 d13 hst st0 st1 st2 st3 st4 st5 st6 st7 st8 st9 st10 st11 st12 st13
          rw [v0, v11]
          go_simp
          exact hK.out _ _ ⟨updV vs 12 (.int .i64 (max m1 lt)), by simp [updV, v0, v11], hM0.last HLD (by decide) hl hno _ hdp ⟨rfl, rfl⟩⟩
         ·
          simp only [List.getElem?_toArray, List.getElem?_cons_zero, List.getElem?_cons_succ, Option.some.injEq] at ho
          subst ho
          have hdp : ∀ e ∈ dep 13, l.getD e false = true := by rw [d13]; exact (dep_cons (hpre ⟨12, .data⟩ (by simp) rfl) (dep_cons (hpre ⟨11, .chain⟩ (by simp) rfl) dep_nil))
          clear k0 k1 k2 k3 k4 k5 k6 k7 k8 k9 k10 k11 d0 d1 d2 d3 d4 d5 d6 d7 d8 d9 d10 d11 d12 d13 hst st0 st1 st2 st3 st4 st5 st6 st7 st8 st9 st10 st11 st12 st13
          go_simp
          exact hK.out _ _ ⟨updV vs 13 (vs 12), by simp [updV], hM0.post 13 (by decide) (by decide) (hpre ⟨12, .data⟩ (by simp) rfl) hdp⟩
        case fin =>
         rintro l a W30 hall ⟨vs30, rfl, hM0⟩
         obtain ⟨W301, hMB, hMG, hMR, hMA⟩ := hM0.fin (by decide) hall
         have HBW := hide hMB
         have v13 := hMA 13 (by decide) (by decide)
         rw [hMR.1] at v13
         rw [v13]
         have hWe := hMR.2
         rw [hWe]
         clear k0 k1 k2 k3 k4 k5 k6 k7 k8 k9 k10 k11 d0 d1 d2 d3 d4 d5 d6 d7 d8 d9 d10 d11 d12 d13 hst st0 st1 st2 st3 st4 st5 st6 st7 st8 st9 st10 st11 st12 st13 HLD HST hMG v13 hWe hMR hMA hMB hall hM0 st HPTd HTLd
         have HV30 := hide (step HVD.out HBW.out)
         have HI30 := hide (step HBD.out HBW.out)
         have x0 := keepW HBW.out z0
         have x1 := keepW HBW.out z1
         have x2 := keepW HBW.out z2
         have x3 := keepW HBW.out z3
         have x4 := keepW HBW.out z4
         have xg2 := keepW HBW.out zg2
         have xz := keepW HBW.out zz
         have x5 := keepW HBW.out y0d
         have x6 := keepW HBW.out y1d
         have x7 := keepW HBW.out y2d
         have x8 := keepW HBW.out y3d
         have x9 := keepW HBW.out y4d
         clear z0 z1 z2 z3 z4 zg2 zz y0d y1d y2d y3d y4d HBW
         go_upto_region 31 with fail
         have ed := bdrew (brefl W301)
         have HBD2 := hide (bdrew HI30.out)
         have HVD2 := hide (bdrew HV30.out)
         have z0 := keepW ed x0
         have z1 := keepW ed x1
         have z2 := keepW ed x2
         have z3 := keepW ed x3
         have z4 := keepW ed x4
         have zg2 := keepW ed xg2
         have zz := keepW ed xz
         have y0d := keepW ed x5
         have y1d := keepW ed x6
         have y2d := keepW ed x7
         have y3d := keepW ed x8
         have y4d := keepW ed x9
         have HPTd := hide (fun (W : World) (h : Below W301.drew.heap.size W301.drew W) => HPT.out W (step HVD2.out h))
         have HTWd := hide (fun (W : World) (h : Below W301.drew.heap.size W301.drew W) => HTW2.out W (step HVD2.out h))
         clear ed x0 x1 x2 x3 x4 x5 x6 x7 x8 x9 xg2 xz
         obtain ⟨KF, hKF⟩ : ∃ f : Nat → Value → World → Prop, f = (fun j v W => match j with | 0 => v = .int .i64 m2 | 1 => v = .agg #[.slice Ac t2.cols.length kc, .int .i64 t2.head, .int .i64 t2.foot, .slice Ar t2.rows.length kr, .int .i64 t2.gap] | 2 => v = .pointer (some ⟨W9.heap.size, 2, none⟩) | 3 => v = .slice (some ⟨bG, oG, none⟩) GL.length gc | 4 => v = .slice (some ⟨bZ, oZ, none⟩) Z.length cZ | 5 => v = .int .i64 ↑i | 6 => v = .pointer (some ⟨bZ, oZ + i, none⟩) | 7 => v = .int .i64 q | 8 => v = .pointer (some ⟨bG, oG + q * 5, none⟩) | 9 => v = .agg #[.int .i64 xg.row, .int .i64 xg.col, .int .i64 xg.rows, .int .i64 xg.cols, .int .i64 xg.inn] | 10 => v = .string tx | 11 => v = .int .i64 wt | _ => True) := ⟨_, rfl⟩
         have k0 : ∀ v W, KF 0 v W ↔ (v = .int .i64 m2) := fun v W => by rw [hKF]; first | done | exact Iff.rfl
         have k1 : ∀ v W, KF 1 v W ↔ (v = .agg #[.slice Ac t2.cols.length kc, .int .i64 t2.head, .int .i64 t2.foot, .slice Ar t2.rows.length kr, .int .i64 t2.gap]) := fun v W => by rw [hKF]; first | done | exact Iff.rfl
         have k2 : ∀ v W, KF 2 v W ↔ (v = .pointer (some ⟨W9.heap.size, 2, none⟩)) := fun v W => by rw [hKF]; first | done | exact Iff.rfl
         have k3 : ∀ v W, KF 3 v W ↔ (v = .slice (some ⟨bG, oG, none⟩) GL.length gc) := fun v W => by rw [hKF]; first | done | exact Iff.rfl
         have k4 : ∀ v W, KF 4 v W ↔ (v = .slice (some ⟨bZ, oZ, none⟩) Z.length cZ) := fun v W => by rw [hKF]; first | done | exact Iff.rfl
         have k5 : ∀ v W, KF 5 v W ↔ (v = .int .i64 ↑i) := fun v W => by rw [hKF]; first | done | exact Iff.rfl
         have k6 : ∀ v W, KF 6 v W ↔ (v = .pointer (some ⟨bZ, oZ + i, none⟩)) := fun v W => by rw [hKF]; first | done | exact Iff.rfl
         have k7 : ∀ v W, KF 7 v W ↔ (v = .int .i64 q) := fun v W => by rw [hKF]; first | done | exact Iff.rfl
         have k8 : ∀ v W, KF 8 v W ↔ (v = .pointer (some ⟨bG, oG + q * 5, none⟩)) := fun v W => by rw [hKF]; first | done | exact Iff.rfl
         have k9 : ∀ v W, KF 9 v W ↔ (v = .agg #[.int .i64 xg.row, .int .i64 xg.col, .int .i64 xg.rows, .int .i64 xg.cols, .int .i64 xg.inn]) := fun v W => by rw [hKF]; first | done | exact Iff.rfl
         have k10 : ∀ v W, KF 10 v W ↔ (v = .string tx) := fun v W => by rw [hKF]; first | done | exact Iff.rfl
         have k11 : ∀ v W, KF 11 v W ↔ (v = .int .i64 wt) := fun v W => by rw [hKF]; first | done | exact Iff.rfl
         have HST : StableP KF := by
          rw [hKF]
          intro j v W W9 h hb
          by_cases hjn : j < 14
          ·
           obtain rfl | rfl | rfl | rfl | rfl | rfl | rfl | rfl | rfl | rfl | rfl | rfl | rfl | rfl : j = 0 ∨ j = 1 ∨ j = 2 ∨ j = 3 ∨ j = 4 ∨ j = 5 ∨ j = 6 ∨ j = 7 ∨ j = 8 ∨ j = 9 ∨ j = 10 ∨ j = 11 ∨ j = 12 ∨ j = 13 := by omega
           ·
            exact h
           ·
            exact h
           ·
            exact h
           ·
            exact h
           ·
            exact h
           ·
            exact h
           ·
            exact h
           ·
            exact h
           ·
            exact h
           ·
            exact h
           ·
            exact h
           ·
            exact h
           ·
            exact trivial
           ·
            exact trivial
          ·
           match j, h with
           | 0, h => exact absurd (by decide) hjn
           | 1, h => exact absurd (by decide) hjn
           | 2, h => exact absurd (by decide) hjn
           | 3, h => exact absurd (by decide) hjn
           | 4, h => exact absurd (by decide) hjn
           | 5, h => exact absurd (by decide) hjn
           | 6, h => exact absurd (by decide) hjn
           | 7, h => exact absurd (by decide) hjn
           | 8, h => exact absurd (by decide) hjn
           | 9, h => exact absurd (by decide) hjn
           | 10, h => exact absurd (by decide) hjn
           | 11, h => exact absurd (by decide) hjn
           | 12, h => exact absurd (by decide) hjn
           | 13, h => exact absurd (by decide) hjn
           | _ + 14, h => exact h
         clear hKF
         obtain ⟨dep, hdep⟩ : ∃ f : Nat → List Nat, f = (fun j => match j with | 3 => [2] | 6 => [4, 5] | 7 => [6] | 8 => [3, 7] | 9 => [8] | 10 => [1, 9] | 11 => [10] | 12 => [0, 11] | 13 => [12, 11] | _ => []) := ⟨_, rfl⟩
         have d0 : dep 0 = [] := congrFun hdep 0
         have d1 : dep 1 = [] := congrFun hdep 1
         have d2 : dep 2 = [] := congrFun hdep 2
         have d3 : dep 3 = [2] := congrFun hdep 3
         have d4 : dep 4 = [] := congrFun hdep 4
         have d5 : dep 5 = [] := congrFun hdep 5
         have d6 : dep 6 = [4, 5] := congrFun hdep 6
         have d7 : dep 7 = [6] := congrFun hdep 7
         have d8 : dep 8 = [3, 7] := congrFun hdep 8
         have d9 : dep 9 = [8] := congrFun hdep 9
         have d10 : dep 10 = [1, 9] := congrFun hdep 10
         have d11 : dep 11 = [10] := congrFun hdep 11
         have d12 : dep 12 = [0, 11] := congrFun hdep 12
         have d13 : dep 13 = [12, 11] := congrFun hdep 13
         clear hdep
         have HLD : LastP 14 12 dep := by
          intro L hc _ k12
          have k11 : L 11 := hc 12 k12 11 (by rw [d12]; simp)
          have k10 : L 10 := hc 11 k11 10 (by rw [d11]; simp)
          have k9 : L 9 := hc 10 k10 9 (by rw [d10]; simp)
          have k8 : L 8 := hc 9 k9 8 (by rw [d9]; simp)
          have k7 : L 7 := hc 8 k8 7 (by rw [d8]; simp)
          have k6 : L 6 := hc 7 k7 6 (by rw [d7]; simp)
          have k5 : L 5 := hc 6 k6 5 (by rw [d6]; simp)
          have k4 : L 4 := hc 6 k6 4 (by rw [d6]; simp)
          have k3 : L 3 := hc 8 k8 3 (by rw [d8]; simp)
          have k2 : L 2 := hc 3 k3 2 (by rw [d3]; simp)
          have k1 : L 1 := hc 10 k10 1 (by rw [d10]; simp)
          have k0 : L 0 := hc 12 k12 0 (by rw [d12]; simp)
          intro j hj
          obtain rfl | rfl | rfl | rfl | rfl | rfl | rfl | rfl | rfl | rfl | rfl | rfl : j = 0 ∨ j = 1 ∨ j = 2 ∨ j = 3 ∨ j = 4 ∨ j = 5 ∨ j = 6 ∨ j = 7 ∨ j = 8 ∨ j = 9 ∨ j = 10 ∨ j = 11 := by omega
          all_goals assumption
         obtain ⟨st, hst⟩ : ∃ f : Nat → Value, f = (fun j => match j with | 0 => u134 | 1 => u135 | 2 => u136 | 3 => u137 | 4 => u138 | 5 => u139 | 6 => u140 | 7 => u141 | 8 => u142 | 9 => u143 | 10 => u144 | 11 => u145 | 12 => u146 | 13 => .int .i64 m2 | _ => undef) := ⟨_, rfl⟩
         have st0 : st 0 = u134 := congrFun hst 0
         have st1 : st 1 = u135 := congrFun hst 1
         have st2 : st 2 = u136 := congrFun hst 2
         have st3 : st 3 = u137 := congrFun hst 3
         have st4 : st 4 = u138 := congrFun hst 4
         have st5 : st 5 = u139 := congrFun hst 5
         have st6 : st 6 = u140 := congrFun hst 6
         have st7 : st 7 = u141 := congrFun hst 7
         have st8 : st 8 = u142 := congrFun hst 8
         have st9 : st 9 = u143 := congrFun hst 9
         have st10 : st 10 = u144 := congrFun hst 10
         have st11 : st 11 = u145 := congrFun hst 11
         have st12 : st 12 = u146 := congrFun hst 12
         have st13 : st 13 = .int .i64 m2 := congrFun hst 13
         refine wp_region_inv (fun l a W => ∃ vs : Nat → Value, a = ⟨List.toArray (.slice A n c :: undef :: u2 :: .pointer (some ⟨W1.heap.size, 0, none⟩) :: .int .i64 ↑t.rows.length :: u5 :: .slice AL m cL :: .slice AS m cS :: .pointer (some ⟨W9.heap.size, 0, none⟩) :: .int .i64 ↑kx :: .int .i64 (max m1 lt) :: vs 13 :: .slice (some ⟨bZ, oZ, none⟩) Z.length cZ :: .int .i64 ↑i :: .slice A n c :: .int .i64 ↑n :: .bool false :: .slice A n c :: .agg #[.slice Ac t.cols.length kc, .int .i64 t.head, .int .i64 t.foot, .slice Ar t.rows.length kr, .int .i64 t.gap] :: .int .i64 ↑t.rows.length :: .pointer (some ⟨W1.heap.size, 3, none⟩) :: .slice Ar t2.rows.length kr :: .int .i64 ↑t2.rows.length :: .bool false :: u24 :: u25 :: u26 :: u27 :: u28 :: u29 :: u30 :: u31 :: u32 :: u33 :: u34 :: u35 :: u36 :: u37 :: u38 :: u39 :: u40 :: u41 :: u42 :: u43 :: u44 :: u45 :: u46 :: u47 :: u48 :: u49 :: u50 :: u51 :: u52 :: u53 :: u54 :: u55 :: u56 :: u57 :: u58 :: u59 :: u60 :: u61 :: u62 :: u63 :: u64 :: u65 :: u66 :: u67 :: u68 :: u69 :: .agg #[.slice Ac t2.cols.length kc, .int .i64 t2.head, .int .i64 t2.foot, .slice Ar t2.rows.length kr, .int .i64 t2.gap] :: .slice AL m cL :: .agg #[.slice Ac t2.cols.length kc, .int .i64 t2.head, .int .i64 t2.foot, .slice Ar t2.rows.length kr, .int .i64 t2.gap] :: .slice AS m cS :: .slice AL m cL :: .agg #[.slice Ac t2.cols.length kc, .int .i64 t2.head, .int .i64 t2.foot, .slice Ar t2.rows.length kr, .int .i64 t2.gap] :: .slice AM m cM :: .bool true :: .bool false :: .bool false :: .slice AS m cS :: .agg #[.slice Ac t2.cols.length kc, .int .i64 t2.head, .int .i64 t2.foot, .slice Ar t2.rows.length kr, .int .i64 t2.gap] :: .slice AN m cN :: .bool true :: .bool false :: .bool false :: .agg #[.slice Ac t2.cols.length kc, .int .i64 t2.head, .int .i64 t2.foot, .slice Ar t2.rows.length kr, .int .i64 t2.gap] :: .bool true :: .bool false :: undef :: undef :: undef :: undef :: undef :: undef :: .agg #[.slice Ac t2.cols.length kc, .int .i64 t2.head, .int .i64 t2.foot, .slice Ar t2.rows.length kr, .int .i64 t2.gap] :: .agg #[.int .i64 ↑t2.rows.length, .int .i64 ↑m, .slice (some ⟨bG, oG, none⟩) GL.length gc] :: .int .i64 ↑kx :: .pointer (some ⟨W9.heap.size, 1, none⟩) :: .int .i64 ↑m :: .bool true :: u101 :: u102 :: .agg #[.slice Ac t2.cols.length kc, .int .i64 t2.head, .int .i64 t2.foot, .slice Ar t2.rows.length kr, .int .i64 t2.gap] :: .int .i64 ↑kx :: .agg #[.int .i64 sd.k, .int .i64 sd.n] :: .int .i64 sd.k :: .bool bb :: u108 :: u109 :: u110 :: u111 :: .agg #[.int .i64 ↑t2.rows.length, .int .i64 ↑m, .slice (some ⟨bG, oG, none⟩) GL.length gc] :: .int .i64 ↑kx :: .slice (some ⟨bZ, oZ, none⟩) Z.length cZ :: .int .i64 ↑i :: .slice (some ⟨bZ, oZ, none⟩) Z.length cZ :: .int .i64 ↑Z.length :: .bool true :: u119 :: u120 :: vs30 0 :: vs30 1 :: vs30 2 :: vs30 3 :: vs30 4 :: vs30 5 :: vs30 6 :: vs30 7 :: vs30 8 :: vs30 9 :: vs30 10 :: vs30 11 :: vs30 12 :: vs 0 :: vs 1 :: vs 2 :: vs 3 :: vs 4 :: vs 5 :: vs 6 :: vs 7 :: vs 8 :: vs 9 :: vs 10 :: vs 11 :: vs 12 :: u147 :: u148 :: u149 :: u150 :: u151 :: u152 :: u153 :: u154 :: u155 :: u156 :: u157 :: u158 :: u159 :: u160 :: u161 :: u162 :: []), []⟩ ∧ PMid KF 14 12 dep (W301.drew) (fun W v W2 => v = .int .i64 (max m2 wt) ∧ W2 = W) st l vs W) (by kernel_rfl) ?top ?start ?step ?fin
         case top =>
          clear k0 k1 k2 k3 k4 k5 k6 k7 k8 k9 k10 k11 d0 d1 d2 d3 d4 d5 d6 d7 d8 d9 d10 d11 d12 d13 hst st0 st1 st2 st3 st4 st5 st6 st7 st8 st9 st10 st11 st12 st13
          intro j o ho e he
          have hj : j < 14 := (Array.getElem?_eq_some_iff.1 ho).1
          have hA : (o.after.all fun e => decide (e.on < j)) = true := by
           obtain rfl | rfl | rfl | rfl | rfl | rfl | rfl | rfl | rfl | rfl | rfl | rfl | rfl | rfl : j = 0 ∨ j = 1 ∨ j = 2 ∨ j = 3 ∨ j = 4 ∨ j = 5 ∨ j = 6 ∨ j = 7 ∨ j = 8 ∨ j = 9 ∨ j = 10 ∨ j = 11 ∨ j = 12 ∨ j = 13 := by omega
           all_goals
            simp only [List.getElem?_toArray, List.getElem?_cons_zero, List.getElem?_cons_succ, Option.some.injEq] at ho
            subst ho
            first | decide | kernel_rfl | simp
          simpa using Array.all_eq_true'.1 hA e he
         case start => exact ⟨st, by rw [hst]; first | done | rfl, PMid.start⟩
         case step =>
          rintro l a W i o ho hl hpre hsz ⟨vs, rfl, hM0⟩ K hK
          have hi : i < 14 := (Array.getElem?_eq_some_iff.1 ho).1
          obtain rfl | rfl | rfl | rfl | rfl | rfl | rfl | rfl | rfl | rfl | rfl | rfl | rfl | rfl : i = 0 ∨ i = 1 ∨ i = 2 ∨ i = 3 ∨ i = 4 ∨ i = 5 ∨ i = 6 ∨ i = 7 ∨ i = 8 ∨ i = 9 ∨ i = 10 ∨ i = 11 ∨ i = 12 ∨ i = 13 := by omega
          ·
           simp only [List.getElem?_toArray, List.getElem?_cons_zero, List.getElem?_cons_succ, Option.some.injEq] at ho
           subst ho
           have hMB := hM0.below HLD hi (by decide) hl
           have hMG := hM0.get HLD hi (by decide) hl
           have v13 : vs 13 = .int .i64 m2 := (hM0.getStale HLD hi (by decide) hl 13 (by decide)).trans st13
           have hdp : ∀ e ∈ dep 0, l.getD e false = true := by rw [d0]; exact dep_nil
           have e := k0
           clear k0 k1 k2 k3 k4 k5 k6 k7 k8 k9 k10 k11 d0 d1 d2 d3 d4 d5 d6 d7 d8 d9 d10 d11 d12 d13 hst st0 st1 st2 st3 st4 st5 st6 st7 st8 st9 st10 st11 st12 st13
           rw [v13]
           go_simp
           exact hK.out _ _ ⟨updV vs 0 (.int .i64 m2), (by simp [updV, v13]), hM0.still HLD HST 0 (by decide) (by decide) hl _ hdp ((e _ _).2 rfl)⟩
          ·
           simp only [List.getElem?_toArray, List.getElem?_cons_zero, List.getElem?_cons_succ, Option.some.injEq] at ho
           subst ho
           have hMB := hM0.below HLD hi (by decide) hl
           have hMG := hM0.get HLD hi (by decide) hl
           have hdp : ∀ e ∈ dep 1, l.getD e false = true := by rw [d1]; exact dep_nil
           have e := k1
           clear k0 k1 k2 k3 k4 k5 k6 k7 k8 k9 k10 k11 d0 d1 d2 d3 d4 d5 d6 d7 d8 d9 d10 d11 d12 d13 hst st0 st1 st2 st3 st4 st5 st6 st7 st8 st9 st10 st11 st12 st13
           have x0 := keepW hMB z0
           have x1 := keepW hMB z1
           have x2 := keepW hMB z2
           have x3 := keepW hMB z3
           have x4 := keepW hMB z4
           go_simp
           exact hK.out _ _ ⟨updV vs 1 (.agg #[.slice Ac t2.cols.length kc, .int .i64 t2.head, .int .i64 t2.foot, .slice Ar t2.rows.length kr, .int .i64 t2.gap]), rfl, hM0.still HLD HST 1 (by decide) (by decide) hl _ hdp ((e _ _).2 rfl)⟩
          ·
           simp only [List.getElem?_toArray, List.getElem?_cons_zero, List.getElem?_cons_succ, Option.some.injEq] at ho
           subst ho
           have hMB := hM0.below HLD hi (by decide) hl
           have hMG := hM0.get HLD hi (by decide) hl
           have hdp : ∀ e ∈ dep 2, l.getD e false = true := by rw [d2]; exact dep_nil
           have e := k2
           clear k0 k1 k2 k3 k4 k5 k6 k7 k8 k9 k10 k11 d0 d1 d2 d3 d4 d5 d6 d7 d8 d9 d10 d11 d12 d13 hst st0 st1 st2 st3 st4 st5 st6 st7 st8 st9 st10 st11 st12 st13
           go_simp
           exact hK.out _ _ ⟨updV vs 2 (.pointer (some ⟨W9.heap.size, 2, none⟩)), rfl, hM0.still HLD HST 2 (by decide) (by decide) hl _ hdp ((e _ _).2 rfl)⟩
          ·
           simp only [List.getElem?_toArray, List.getElem?_cons_zero, List.getElem?_cons_succ, Option.some.injEq] at ho
           subst ho
           have hMB := hM0.below HLD hi (by decide) hl
           have hMG := hM0.get HLD hi (by decide) hl
           have v2 : vs 2 = .pointer (some ⟨W9.heap.size, 2, none⟩) := (k2 _ _).1 (hMG 2 (by decide) (hpre ⟨2, .data⟩ (by simp) rfl))
           have hdp : ∀ e ∈ dep 3, l.getD e false = true := by rw [d3]; exact (dep_cons (hpre ⟨2, .data⟩ (by simp) rfl) dep_nil)
           have e := k3
           clear k0 k1 k2 k3 k4 k5 k6 k7 k8 k9 k10 k11 d0 d1 d2 d3 d4 d5 d6 d7 d8 d9 d10 d11 d12 d13 hst st0 st1 st2 st3 st4 st5 st6 st7 st8 st9 st10 st11 st12 st13
           have x0 := keepW hMB zg2
           rw [v2]
           go_simp
           exact hK.out _ _ ⟨updV vs 3 (.slice (some ⟨bG, oG, none⟩) GL.length gc), (by simp [updV, v2]), hM0.still HLD HST 3 (by decide) (by decide) hl _ hdp ((e _ _).2 rfl)⟩
          ·
           simp only [List.getElem?_toArray, List.getElem?_cons_zero, List.getElem?_cons_succ, Option.some.injEq] at ho
           subst ho
           have hMB := hM0.below HLD hi (by decide) hl
           have hMG := hM0.get HLD hi (by decide) hl
           have hdp : ∀ e ∈ dep 4, l.getD e false = true := by rw [d4]; exact dep_nil
           have e := k4
           clear k0 k1 k2 k3 k4 k5 k6 k7 k8 k9 k10 k11 d0 d1 d2 d3 d4 d5 d6 d7 d8 d9 d10 d11 d12 d13 hst st0 st1 st2 st3 st4 st5 st6 st7 st8 st9 st10 st11 st12 st13
           go_simp
           exact hK.out _ _ ⟨updV vs 4 (.slice (some ⟨bZ, oZ, none⟩) Z.length cZ), rfl, hM0.still HLD HST 4 (by decide) (by decide) hl _ hdp ((e _ _).2 rfl)⟩
          ·
           simp only [List.getElem?_toArray, List.getElem?_cons_zero, List.getElem?_cons_succ, Option.some.injEq] at ho
           subst ho
           have hMB := hM0.below HLD hi (by decide) hl
           have hMG := hM0.get HLD hi (by decide) hl
           have hdp : ∀ e ∈ dep 5, l.getD e false = true := by rw [d5]; exact dep_nil
           have e := k5
           clear k0 k1 k2 k3 k4 k5 k6 k7 k8 k9 k10 k11 d0 d1 d2 d3 d4 d5 d6 d7 d8 d9 d10 d11 d12 d13 hst st0 st1 st2 st3 st4 st5 st6 st7 st8 st9 st10 st11 st12 st13
           go_simp
           exact hK.out _ _ ⟨updV vs 5 (.int .i64 ↑i), rfl, hM0.still HLD HST 5 (by decide) (by decide) hl _ hdp ((e _ _).2 rfl)⟩
          ·
           simp only [List.getElem?_toArray, List.getElem?_cons_zero, List.getElem?_cons_succ, Option.some.injEq] at ho
           subst ho
           have hMB := hM0.below HLD hi (by decide) hl
           have hMG := hM0.get HLD hi (by decide) hl
           have v4 : vs 4 = .slice (some ⟨bZ, oZ, none⟩) Z.length cZ := (k4 _ _).1 (hMG 4 (by decide) (hpre ⟨4, .data⟩ (by simp) rfl))
           have v5 : vs 5 = .int .i64 ↑i := (k5 _ _).1 (hMG 5 (by decide) (hpre ⟨5, .data⟩ (by simp) rfl))
           have hdp : ∀ e ∈ dep 6, l.getD e false = true := by rw [d6]; exact (dep_cons (hpre ⟨4, .data⟩ (by simp) rfl) (dep_cons (hpre ⟨5, .data⟩ (by simp) rfl) dep_nil))
           have e := k6
           clear k0 k1 k2 k3 k4 k5 k6 k7 k8 k9 k10 k11 d0 d1 d2 d3 d4 d5 d6 d7 d8 d9 d10 d11 d12 d13 hst st0 st1 st2 st3 st4 st5 st6 st7 st8 st9 st10 st11 st12 st13
           rw [v4, v5]
           go_simp
           exact hK.out _ _ ⟨updV vs 6 (.pointer (some ⟨bZ, oZ + i, none⟩)), (by simp [updV, v4, v5]), hM0.still HLD HST 6 (by decide) (by decide) hl _ hdp ((e _ _).2 rfl)⟩
          ·
           simp only [List.getElem?_toArray, List.getElem?_cons_zero, List.getElem?_cons_succ, Option.some.injEq] at ho
           subst ho
           have hMB := hM0.below HLD hi (by decide) hl
           have hMG := hM0.get HLD hi (by decide) hl
           have v6 : vs 6 = .pointer (some ⟨bZ, oZ + i, none⟩) := (k6 _ _).1 (hMG 6 (by decide) (hpre ⟨6, .data⟩ (by simp) rfl))
           have hdp : ∀ e ∈ dep 7, l.getD e false = true := by rw [d7]; exact (dep_cons (hpre ⟨6, .data⟩ (by simp) rfl) dep_nil)
           have e := k7
           clear k0 k1 k2 k3 k4 k5 k6 k7 k8 k9 k10 k11 d0 d1 d2 d3 d4 d5 d6 d7 d8 d9 d10 d11 d12 d13 hst st0 st1 st2 st3 st4 st5 st6 st7 st8 st9 st10 st11 st12 st13
           have x0 := keepW hMB zz
           rw [v6]
           go_simp
           exact hK.out _ _ ⟨updV vs 7 (.int .i64 q), (by simp [updV, v6]), hM0.still HLD HST 7 (by decide) (by decide) hl _ hdp ((e _ _).2 rfl)⟩
          ·
           simp only [List.getElem?_toArray, List.getElem?_cons_zero, List.getElem?_cons_succ, Option.some.injEq] at ho
           subst ho
           have hMB := hM0.below HLD hi (by decide) hl
           have hMG := hM0.get HLD hi (by decide) hl
           have v3 : vs 3 = .slice (some ⟨bG, oG, none⟩) GL.length gc := (k3 _ _).1 (hMG 3 (by decide) (hpre ⟨3, .data⟩ (by simp) rfl))
           have v7 : vs 7 = .int .i64 q := (k7 _ _).1 (hMG 7 (by decide) (hpre ⟨7, .data⟩ (by simp) rfl))
           have hdp : ∀ e ∈ dep 8, l.getD e false = true := by rw [d8]; exact (dep_cons (hpre ⟨3, .data⟩ (by simp) rfl) (dep_cons (hpre ⟨7, .data⟩ (by simp) rfl) dep_nil))
           have e := k8
           clear k0 k1 k2 k3 k4 k5 k6 k7 k8 k9 k10 k11 d0 d1 d2 d3 d4 d5 d6 d7 d8 d9 d10 d11 d12 d13 hst st0 st1 st2 st3 st4 st5 st6 st7 st8 st9 st10 st11 st12 st13
           rw [v3, v7]
           go_simp
           exact hK.out _ _ ⟨updV vs 8 (.pointer (some ⟨bG, oG + q * 5, none⟩)), (by simp [updV, v3, v7]), hM0.still HLD HST 8 (by decide) (by decide) hl _ hdp ((e _ _).2 rfl)⟩
          ·
           simp only [List.getElem?_toArray, List.getElem?_cons_zero, List.getElem?_cons_succ, Option.some.injEq] at ho
           subst ho
           have hMB := hM0.below HLD hi (by decide) hl
           have hMG := hM0.get HLD hi (by decide) hl
           have v8 : vs 8 = .pointer (some ⟨bG, oG + q * 5, none⟩) := (k8 _ _).1 (hMG 8 (by decide) (hpre ⟨8, .data⟩ (by simp) rfl))
           have hdp : ∀ e ∈ dep 9, l.getD e false = true := by rw [d9]; exact (dep_cons (hpre ⟨8, .data⟩ (by simp) rfl) dep_nil)
           have e := k9
           clear k0 k1 k2 k3 k4 k5 k6 k7 k8 k9 k10 k11 d0 d1 d2 d3 d4 d5 d6 d7 d8 d9 d10 d11 d12 d13 hst st0 st1 st2 st3 st4 st5 st6 st7 st8 st9 st10 st11 st12 st13
           have x0 := keepW hMB y0d
           have x1 := keepW hMB y1d
           have x2 := keepW hMB y2d
           have x3 := keepW hMB y3d
           have x4 := keepW hMB y4d
           rw [v8]
           go_simp
           exact hK.out _ _ ⟨updV vs 9 (.agg #[.int .i64 xg.row, .int .i64 xg.col, .int .i64 xg.rows, .int .i64 xg.cols, .int .i64 xg.inn]), (by simp [updV, v8]), hM0.still HLD HST 9 (by decide) (by decide) hl _ hdp ((e _ _).2 rfl)⟩
          ·
           simp only [List.getElem?_toArray, List.getElem?_cons_zero, List.getElem?_cons_succ, Option.some.injEq] at ho
           subst ho
           have hMB := hM0.below HLD hi (by decide) hl
           have hMG := hM0.get HLD hi (by decide) hl
           have v1 : vs 1 = .agg #[.slice Ac t2.cols.length kc, .int .i64 t2.head, .int .i64 t2.foot, .slice Ar t2.rows.length kr, .int .i64 t2.gap] := (k1 _ _).1 (hMG 1 (by decide) (hpre ⟨1, .data⟩ (by simp) rfl))
           have v9 : vs 9 = .agg #[.int .i64 xg.row, .int .i64 xg.col, .int .i64 xg.rows, .int .i64 xg.cols, .int .i64 xg.inn] := (k9 _ _).1 (hMG 9 (by decide) (hpre ⟨9, .data⟩ (by simp) rfl))
           have hdp : ∀ e ∈ dep 10, l.getD e false = true := by rw [d10]; exact (dep_cons (hpre ⟨1, .data⟩ (by simp) rfl) (dep_cons (hpre ⟨9, .data⟩ (by simp) rfl) dep_nil))
           have e := k10
           clear k0 k1 k2 k3 k4 k5 k6 k7 k8 k9 k10 k11 d0 d1 d2 d3 d4 d5 d6 d7 d8 d9 d10 d11 d12 d13 hst st0 st1 st2 st3 st4 st5 st6 st7 st8 st9 st10 st11 st12 st13
           rw [v1, v9]
           go_simp
           refine (HPTd.out _ hMB).mono ?_
           rintro e5 W5 ⟨rfl, hb5⟩
           exact hK.out _ _ ⟨updV vs 10 (.string tx), (by simp [updV, v1, v9]), hM0.next HLD HST 10 (by decide) (by decide) hl _ hdp hb5 ((e _ _).2 rfl)⟩
          ·
           simp only [List.getElem?_toArray, List.getElem?_cons_zero, List.getElem?_cons_succ, Option.some.injEq] at ho
           subst ho
           have hMB := hM0.below HLD hi (by decide) hl
           have hMG := hM0.get HLD hi (by decide) hl
           have v10 : vs 10 = .string tx := (k10 _ _).1 (hMG 10 (by decide) (hpre ⟨10, .data⟩ (by simp) rfl))
           have hdp : ∀ e ∈ dep 11, l.getD e false = true := by rw [d11]; exact (dep_cons (hpre ⟨10, .data⟩ (by simp) rfl) dep_nil)
           have e := k11
           clear k0 k1 k2 k3 k4 k5 k6 k7 k8 k9 k10 k11 d0 d1 d2 d3 d4 d5 d6 d7 d8 d9 d10 d11 d12 d13 hst st0 st1 st2 st3 st4 st5 st6 st7 st8 st9 st10 st11 st12 st13
           rw [v10]
           go_simp
           refine (HTWd.out _ hMB).mono ?_
           rintro e5 W5 ⟨rfl, hb5⟩
           exact hK.out _ _ ⟨updV vs 11 (.int .i64 wt), (by simp [updV, v10]), hM0.next HLD HST 11 (by decide) (by decide) hl _ hdp hb5 ((e _ _).2 rfl)⟩
          ·
           simp only [List.getElem?_toArray, List.getElem?_cons_zero, List.getElem?_cons_succ, Option.some.injEq] at ho
           subst ho
           have hMB := hM0.below HLD hi (by decide) hl
           have hMG := hM0.get HLD hi (by decide) hl
           have v0 : vs 0 = .int .i64 m2 := (k0 _ _).1 (hMG 0 (by decide) (hpre ⟨0, .data⟩ (by simp) rfl))
           have v11 : vs 11 = .int .i64 wt := (k11 _ _).1 (hMG 11 (by decide) (hpre ⟨11, .data⟩ (by simp) rfl))
           have hdp : ∀ e ∈ dep 12, l.getD e false = true := by rw [d12]; exact (dep_cons (hpre ⟨0, .data⟩ (by simp) rfl) (dep_cons (hpre ⟨11, .data⟩ (by simp) rfl) dep_nil))
           have hno : ∀ j, 12 < j → l.getD j false = true → 12 ∈ dep j := by
            intro j hj hj2
            have hjn : j < 14 := by have := getD_over hj2; rw [hM0.size] at this; exact this
            obtain rfl : j = 13 := by omega
            ·
             rw [d13]; simp
           clear k0 k1 k2 k3 k4 k5 k6 k7 k8 k9 k10 k11 d0 d1 d2 d3 d4 d5 d6 d7 d8 d9 d10 d11 d12 d13 hst st0 st1 st2 st3 st4 st5 st6 st7 st8 st9 st10 st11 st12 st13
           rw [v0, v11]
           go_simp
           exact hK.out _ _ ⟨updV vs 12 (.int .i64 (max m2 wt)), by simp [updV, v0, v11], hM0.last HLD (by decide) hl hno _ hdp ⟨rfl, rfl⟩⟩
          ·
           simp only [List.getElem?_toArray, List.getElem?_cons_zero, List.getElem?_cons_succ, Option.some.injEq] at ho
           subst ho
           have hdp : ∀ e ∈ dep 13, l.getD e false = true := by rw [d13]; exact (dep_cons (hpre ⟨12, .data⟩ (by simp) rfl) (dep_cons (hpre ⟨11, .chain⟩ (by simp) rfl) dep_nil))
           clear k0 k1 k2 k3 k4 k5 k6 k7 k8 k9 k10 k11 d0 d1 d2 d3 d4 d5 d6 d7 d8 d9 d10 d11 d12 d13 hst st0 st1 st2 st3 st4 st5 st6 st7 st8 st9 st10 st11 st12 st13
           go_simp
           exact hK.out _ _ ⟨updV vs 13 (vs 12), by simp [updV], hM0.post 13 (by decide) (by decide) (hpre ⟨12, .data⟩ (by simp) rfl) hdp⟩
         case fin =>
          rintro l a W31 hall ⟨vs31, rfl, hM0⟩
          obtain ⟨W311, hMB, hMG, hMR, hMA⟩ := hM0.fin (by decide) hall
          have HBW := hide hMB
          have v13 := hMA 13 (by decide) (by decide)
          rw [hMR.1] at v13
          rw [v13]
          have hWe := hMR.2
          rw [hWe]
          clear k0 k1 k2 k3 k4 k5 k6 k7 k8 k9 k10 k11 d0 d1 d2 d3 d4 d5 d6 d7 d8 d9 d10 d11 d12 d13 hst st0 st1 st2 st3 st4 st5 st6 st7 st8 st9 st10 st11 st12 st13 HLD HST hMG v13 hWe hMR hMA hMB hall hM0 st HPTd HTWd
          have hz8 := HZL.out
          go_wp2_with fail
          go_roundg (Z.length - (i + 1))
          case measure => omega
          case rel => exact ⟨i + 1, by omega, by omega, by go_num, by rw [HST1.out], by rw [HST2.out], step HBD2.out HBW.out⟩
       ·
        have hltz2 : ¬ (i : Int) < (Z.length : Int) := by omega
        have e1 : Z.take i = Z := List.take_of_length_le (by omega)
        rw [e1]
        have hTK := HTK2.out
        obtain ⟨m1, hm1⟩ : ∃ m1, mostI (fun c => leastT (textOf t2 c)) GL Z n0 = m1 := ⟨_, rfl⟩
        obtain ⟨m2, hm2⟩ : ∃ m2, mostI (fun c => wishT (textOf t2 c)) GL Z 0 = m2 := ⟨_, rfl⟩
        rw [hm1, hm2] at hTK ⊢
        have HBK := hide (step HBC.out HBI.out)
        obtain ⟨bL, oL, rfl, _, hl9⟩ := rd_int HI.out HBK.out kx (by have := HLL.out; omega)
        obtain ⟨bS, oS, rfl, _, hs9⟩ := rd_int HJ.out HBK.out kx (by have := HLS.out; omega)
        rw [hTK.1] at hl9
        rw [hTK.2] at hs9
        have hltL : (kx : Int) < (L.length : Int) := by have := HLL.out; omega
        have hltS : (kx : Int) < (S.length : Int) := by have := HLS.out; omega
        have hkb := HNM.out
        clear hm1 hm2 hTK e1 hltz2
        have hb1 : (m1 != m1) = false := by simp
        have hb2 : (max m1 m2 != max m1 m2) = false := by simp
        go_wp2_with fail
        go_roundg (m - (kx + 1))
        case measure => omega
        case rel => exact ⟨kx + 1, by omega, by omega, by go_num, HBK.out⟩
     ·
      have hltz : ¬ (kx : Int) < (m : Int) := by omega
      go_wp2_with fail
      go_ret
      exact ⟨rfl, step HB.out (step HBV.out HBX.out)⟩
end Go.Proofs.YtpfagdmmhgcmnaaGreatDoor
