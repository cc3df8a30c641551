/- script: ScriptLines, walked. -/
import Derived.Test.YtcocmljollnpdaaDoorSc8
import Derived.Test.YtcocmljollnpdaaDoorSc11
import Derived.Test.YtcocmljollnpdaaDoorSc12
import Derived.Test.YtcocmljollnpdaaDoorSc13
import Derived.Test.YtcocmljollnpdaaDoorSc15
import Derived.Deep.RegionWith
import Derived.Deep.Cut
namespace Go.Proofs.YtcocmljollnpdaaDoor
open Go Go.RowKit Go.Dm
set_option linter.unusedVariables false
set_option linter.unusedSimpArgs false

theorem hexL_len (l : List UInt8) : (hexL l).length ≤ 2 * l.length + 1 := by
  unfold hexL
  split
  · simp
  · rw [flat_len]; omega
theorem bitsL_len (l : List Bool) : (bitsL l).length ≤ l.length + 1 := by
  unfold bitsL
  split
  · simp
  · rw [List.length_map]; omega
theorem steps_len (k : Nat) : (stepsT.getD k []).length ≤ 7 := by
  have h : ∀ w ∈ [] :: stepsT, w.length ≤ 7 := by decide
  refine h _ ?_
  rw [List.getD_eq_getElem?_getD]
  cases hx : stepsT[k]? with
  | none => simp
  | some x => exact List.mem_cons_of_mem _ (List.mem_of_getElem? hx)
theorem calls_len (k : Nat) : (callsT.getD k []).length ≤ 7 := by
  have h : ∀ w ∈ [] :: callsT, w.length ≤ 7 := by decide
  refine h _ ?_
  rw [List.getD_eq_getElem?_getD]
  cases hx : callsT[k]? with
  | none => simp
  | some x => exact List.mem_cons_of_mem _ (List.mem_of_getElem? hx)
theorem line_len {s : Stp} (hf : Fit s) {t : List UInt8} (h : lineL s = some t) : t.length ≤ 200 + 2 * s.key.length + 2 * s.val.length + s.keep.length := by
  obtain ⟨f1, f2, f3, f4, f5, f6, f7, f8⟩ := hf
  have z2 := itoa_le f2
  have z3 := itoa_le f3
  have z4 := itoa_le f4
  have z6 := itoa_le f6
  have z7 := itoa_le f7
  have z8 := itoa_le f8
  have y1 := hexL_len s.key
  have y2 := hexL_len s.val
  have y3 := bitsL_len s.keep
  have x1 := steps_len 1
  have x7 := steps_len 7
  have x9 := steps_len 9
  have xk := steps_len s.kind.toNat
  have xc := calls_len s.ck.toNat
  unfold lineL at h
  obtain ⟨ws, hw, rfl⟩ := Option.map_eq_some_iff.1 h
  clear h
  unfold lineW at hw
  repeat' split at hw
  all_goals first
    | (injection hw with hw; subst hw; simp only [jn_cons, jn_one, List.length_append, List.length_cons]; omega)
    | cases hw

set_option maxHeartbeats 16000000 in
set_option maxRecDepth 100000 in
theorem lines_walk {s : Stp} {v : Value} {w : World} (hf : Fit s) (hr : Row1 w v (bools s.keep)) (hE : Env w) :
    Calls Tryd.prog 7 #[.agg (s.cells v).toArray] w fun e w' => e = .returned (.bool true) ∧ Only (fun _ => False) w w' := by
  have hline := fun t => line_len (t := t) hf
  have hstep := fun t => step_line (t := t) hf
  obtain ⟨kind, node, sess, req, ck, key, val, at_, n, keep, tear⟩ := s
  have HF := Lib.hid hf
  have HR := Lib.hid hr
  have HE := Lib.hid hE
  have HL := Lib.hid hline
  have HST := Lib.hid hstep
  obtain ⟨a, cap, hv, _⟩ := hr
  generalize (bools _).length = N at hv
  subst hv
  clear hf hE hline hstep
  unfold Stp.cells Str
  go_enter Tryd.func7, Tryd.ntmps7
  go_upto_region 1 with fail
  have ho1 : Only (fun _ => False) w (w.alloc (Obj.cells #[(.int .i64 kind : Value), .int .i64 node, .int .i64 sess, .int .i64 req, .int .i64 ck, .string ⟨key.toArray⟩, .string ⟨val.toArray⟩, .int .i64 at_, .int .i64 n, .slice a N cap, .int .i64 tear] 27)) := (Only.refl _ _).alloc _
  have k1 : (w.alloc (Obj.cells #[(.int .i64 kind : Value), .int .i64 node, .int .i64 sess, .int .i64 req, .int .i64 ck, .string ⟨key.toArray⟩, .string ⟨val.toArray⟩, .int .i64 at_, .int .i64 n, .slice a N cap, .int .i64 tear] 27)).heap[w.heap.size]? = some (.cells #[(.int .i64 kind : Value), .int .i64 node, .int .i64 sess, .int .i64 req, .int .i64 ck, .string ⟨key.toArray⟩, .string ⟨val.toArray⟩, .int .i64 at_, .int .i64 n, .slice a N cap, .int .i64 tear] 27 (0, 0)) := blk_alloc_new
  generalize (w.alloc (Obj.cells #[(.int .i64 kind : Value), .int .i64 node, .int .i64 sess, .int .i64 req, .int .i64 ck, .string ⟨key.toArray⟩, .string ⟨val.toArray⟩, .int .i64 at_, .int .i64 n, .slice a N cap, .int .i64 tear] 27)) = w1 at *
  generalize hB : w.heap.size = B at *
  have HE1 := Lib.hid (HE.out.new ho1)
  have HR1 := Lib.hid (HR.out.new ho1)
  have HO := Lib.hid ho1
  have K1 := Lib.hid k1
  clear ho1 k1 hB HR HE
  go_wp2_with fail
  refine (head_any HE1.out).mono ?_
  rintro e w2 ⟨rfl, ho2⟩
  have HO2 := Lib.hid (HO.out.trans' ho2)
  have HE2 := Lib.hid (HE1.out.new ho2)
  have HR2 := Lib.hid (HR1.out.new ho2)
  have K2 := Lib.hid (ho2.blk K1.out id)
  clear HO HE1 HR1 K1 ho2
  have c0 := cell_of_blk K2.out 0
  have c1 := cell_of_blk K2.out 1
  have c2 := cell_of_blk K2.out 2
  have c3 := cell_of_blk K2.out 3
  have c4 := cell_of_blk K2.out 4
  have c5 := cell_of_blk K2.out 5
  have c6 := cell_of_blk K2.out 6
  have c7 := cell_of_blk K2.out 7
  have c8 := cell_of_blk K2.out 8
  have c9 := cell_of_blk K2.out 9
  have c10 := cell_of_blk K2.out 10
  simp only [List.getElem?_toArray, List.getElem?_cons_zero, List.getElem?_cons_succ] at c0 c1 c2 c3 c4 c5 c6 c7 c8 c9 c10
  go_wp2_with fail
  refine (fit_any (s := ⟨kind, node, sess, req, ck, key, val, at_, n, keep, tear⟩) (v := .slice a N cap) HR2.out).mono ?_
  rintro e w3 ⟨rfl, ho3⟩
  cases hfit : fitB ⟨kind, node, sess, req, ck, key, val, at_, n, keep, tear⟩ with
  | false =>
    go_wp2_with fail
    go_ret
    exact ⟨rfl, HO2.out.trans' ho3⟩
  | true =>
    have hz : key.length ≤ 60 ∧ val.length ≤ 60 ∧ keep.length ≤ 60 := by
      unfold fitB at hfit
      simpa using hfit
    obtain ⟨z1, z2, z3⟩ := hz
    have HO3 := Lib.hid (HO2.out.trans' ho3)
    have HE3 := Lib.hid (HE2.out.new ho3)
    have HR3 := Lib.hid (HR2.out.new ho3)
    have K3 := Lib.hid (ho3.blk K2.out id)
    clear HO2 HE2 HR2 K2 ho3 hfit c0 c1 c2 c3 c4 c5 c6 c7 c8 c9 c10
    have c0 := cell_of_blk K3.out 0
    have c1 := cell_of_blk K3.out 1
    have c2 := cell_of_blk K3.out 2
    have c3 := cell_of_blk K3.out 3
    have c4 := cell_of_blk K3.out 4
    have c5 := cell_of_blk K3.out 5
    have c6 := cell_of_blk K3.out 6
    have c7 := cell_of_blk K3.out 7
    have c8 := cell_of_blk K3.out 8
    have c9 := cell_of_blk K3.out 9
    have c10 := cell_of_blk K3.out 10
    simp only [List.getElem?_toArray, List.getElem?_cons_zero, List.getElem?_cons_succ] at c0 c1 c2 c3 c4 c5 c6 c7 c8 c9 c10
    go_wp2_with fail
    refine (lline_any (s := ⟨kind, node, sess, req, ck, key, val, at_, n, keep, tear⟩) (v := .slice a N cap) HF.out HR3.out (by simp only; omega) (by simp only; omega) (by simp only; omega) HE3.out).mono ?_
    rintro e w4 ⟨ho4, hres⟩
    have HO4 := Lib.hid (HO3.out.trans' ho4)
    have HE4 := Lib.hid (HE3.out.new ho4)
    have HR4 := Lib.hid (HR3.out.new ho4)
    have K4 := Lib.hid (ho4.blk K3.out id)
    clear HO3 HE3 HR3 K3 ho4 c0 c1 c2 c3 c4 c5 c6 c7 c8 c9 c10
    have c0 := cell_of_blk K4.out 0
    have c1 := cell_of_blk K4.out 1
    have c2 := cell_of_blk K4.out 2
    have c3 := cell_of_blk K4.out 3
    have c4 := cell_of_blk K4.out 4
    have c5 := cell_of_blk K4.out 5
    have c6 := cell_of_blk K4.out 6
    have c7 := cell_of_blk K4.out 7
    have c8 := cell_of_blk K4.out 8
    have c9 := cell_of_blk K4.out 9
    have c10 := cell_of_blk K4.out 10
    simp only [List.getElem?_toArray, List.getElem?_cons_zero, List.getElem?_cons_succ] at c0 c1 c2 c3 c4 c5 c6 c7 c8 c9 c10
    rcases hres with ⟨t, ht, rfl⟩ | ⟨hn, rfl⟩
    · have HLN := Lib.hid (HL.out t ht)
      have HSP := Lib.hid (HST.out t ht)
      have HT := Lib.hid ht
      clear ht HL HST
      obtain ⟨tb, htb⟩ : ∃ tb : ByteArray, tb = ⟨t.toArray⟩ := ⟨_, rfl⟩
      have hstr : Str t = .string tb := by rw [htb]; rfl
      have Htb := Lib.hid (show tb.data.toList = t by rw [htb])
      have HSTR := Lib.hid hstr
      clear htb
      rw [hstr]
      clear hstr
      go_wp2_with fail
      refine (sline_any (s := ⟨kind, node, sess, req, ck, key, val, at_, n, keep, tear⟩) (v := .slice a N cap) HF.out HR4.out (by simp only; omega) (by simp only; omega) (by simp only; omega) HE4.out).mono ?_
      rintro e w5 ⟨ho5, ⟨t2, ht2, rfl⟩ | ⟨hn, rfl⟩⟩
      · have hh := ht2.symm.trans HT.out
        injection hh with hh
        subst hh
        rw [HSTR.out]
        have HO5 := Lib.hid (HO4.out.trans' ho5)
        have HE5 := Lib.hid (HE4.out.new ho5)
        have HR5 := Lib.hid (HR4.out.new ho5)
        have K5 := Lib.hid (ho5.blk K4.out id)
        clear HO4 HE4 HR4 K4 ho5 ht2 c0 c1 c2 c3 c4 c5 c6 c7 c8 c9 c10
        have hbs : tb.size ≤ 1048576 := by
          have h1 : tb.size = tb.data.toList.length := by simp
          have h2 := HLN.out
          rw [h1, Htb.out]; omega
        go_wp2_with fail
        refine (step_any tb hbs HE5.out).mono ?_
        rintro e w6 ⟨ho6, ⟨s', v', hs', rfl, hrow'⟩ | ⟨hs', _⟩⟩
        · rw [Htb.out] at hs'
          have hon := Lib.hid (show onlyS ⟨kind, node, sess, req, ck, key, val, at_, n, keep, tear⟩ = s' by have := HSP.out.symm.trans hs'; injection this)
          have HO6 := Lib.hid (HO5.out.trans' ho6)
          have HR6 := Lib.hid (HR5.out.new ho6)
          have K6 := Lib.hid (ho6.blk K5.out id)
          clear hs' HSP HO5 HR5 K5 ho6 HE5 HF
          obtain ⟨kind2, node2, sess2, req2, ck2, key2, val2, at2, n2, keep2, tear2⟩ := s'
          have HRW := Lib.hid hrow'
          obtain ⟨a2, cap2, hv2, _⟩ := hrow'
          generalize (bools _).length = N2 at hv2
          subst hv2
          unfold Stp.cells Str
          as_aux_lemma =>
            go_upto_region 12 with fail
            have hoA : Only (fun _ => False) w6 (w6.alloc (Obj.cells #[(.int .i64 kind2 : Value), .int .i64 node2, .int .i64 sess2, .int .i64 req2, .int .i64 ck2, .string ⟨key2.toArray⟩, .string ⟨val2.toArray⟩, .int .i64 at2, .int .i64 n2, .slice a2 N2 cap2, .int .i64 tear2] 27)) := (Only.refl _ _).alloc _
            have kD : (w6.alloc (Obj.cells #[(.int .i64 kind2 : Value), .int .i64 node2, .int .i64 sess2, .int .i64 req2, .int .i64 ck2, .string ⟨key2.toArray⟩, .string ⟨val2.toArray⟩, .int .i64 at2, .int .i64 n2, .slice a2 N2 cap2, .int .i64 tear2] 27)).heap[w6.heap.size]? = some (.cells #[(.int .i64 kind2 : Value), .int .i64 node2, .int .i64 sess2, .int .i64 req2, .int .i64 ck2, .string ⟨key2.toArray⟩, .string ⟨val2.toArray⟩, .int .i64 at2, .int .i64 n2, .slice a2 N2 cap2, .int .i64 tear2] 27 (0, 0)) := blk_alloc_new
            have kB := hoA.blk K6.out id
            have HO7 := Lib.hid (HO6.out.trans' hoA)
            have HR7 := Lib.hid (HR6.out.new hoA)
            have HRW7 := Lib.hid (HRW.out.new hoA)
            clear hoA HO6 HR6 K6 HRW
            generalize (w6.alloc (Obj.cells #[(.int .i64 kind2 : Value), .int .i64 node2, .int .i64 sess2, .int .i64 req2, .int .i64 ck2, .string ⟨key2.toArray⟩, .string ⟨val2.toArray⟩, .int .i64 at2, .int .i64 n2, .slice a2 N2 cap2, .int .i64 tear2] 27)) = w7 at *
            generalize w6.heap.size = D at *
            have c0 := cell_of_blk kB 0
            have c1 := cell_of_blk kB 1
            have c2 := cell_of_blk kB 2
            have c3 := cell_of_blk kB 3
            have c4 := cell_of_blk kB 4
            have c5 := cell_of_blk kB 5
            have c6 := cell_of_blk kB 6
            have c7 := cell_of_blk kB 7
            have c8 := cell_of_blk kB 8
            have c9 := cell_of_blk kB 9
            have c10 := cell_of_blk kB 10
            simp only [List.getElem?_toArray, List.getElem?_cons_zero, List.getElem?_cons_succ] at c0 c1 c2 c3 c4 c5 c6 c7 c8 c9 c10
            have d0 := cell_of_blk kD 0
            have d1 := cell_of_blk kD 1
            have d2 := cell_of_blk kD 2
            have d3 := cell_of_blk kD 3
            have d4 := cell_of_blk kD 4
            have d5 := cell_of_blk kD 5
            have d6 := cell_of_blk kD 6
            have d7 := cell_of_blk kD 7
            have d8 := cell_of_blk kD 8
            have d9 := cell_of_blk kD 9
            have d10 := cell_of_blk kD 10
            simp only [List.getElem?_toArray, List.getElem?_cons_zero, List.getElem?_cons_succ] at d0 d1 d2 d3 d4 d5 d6 d7 d8 d9 d10
            have l0 := later_cell (S := fun _ => False) c0 id
            have l1 := later_cell (S := fun _ => False) c1 id
            have l2 := later_cell (S := fun _ => False) c2 id
            have l3 := later_cell (S := fun _ => False) c3 id
            have l4 := later_cell (S := fun _ => False) c4 id
            have l5 := later_cell (S := fun _ => False) c5 id
            have l6 := later_cell (S := fun _ => False) c6 id
            have l7 := later_cell (S := fun _ => False) c7 id
            have l8 := later_cell (S := fun _ => False) c8 id
            have l9 := later_cell (S := fun _ => False) c9 id
            have l10 := later_cell (S := fun _ => False) c10 id
            have m0 := later_cell (S := fun _ => False) d0 id
            have m1 := later_cell (S := fun _ => False) d1 id
            have m2 := later_cell (S := fun _ => False) d2 id
            have m3 := later_cell (S := fun _ => False) d3 id
            have m4 := later_cell (S := fun _ => False) d4 id
            have m5 := later_cell (S := fun _ => False) d5 id
            have m6 := later_cell (S := fun _ => False) d6 id
            have m7 := later_cell (S := fun _ => False) d7 id
            have m8 := later_cell (S := fun _ => False) d8 id
            have m9 := later_cell (S := fun _ => False) d9 id
            have m10 := later_cell (S := fun _ => False) d10 id
            clear kB kD
            refine wp_region_segL [1,1,1,1,2,2,2,2] (fun _ => False) (by kernel_rfl) (by kernel_rfl) ?_
            refine seg_reads 4 (by decide) (by decide) ?_
            simp only [List.take_succ_cons, List.take_zero, List.drop_succ_cons, List.drop_zero]
            iterate 4 (go_big_quiet_step (fail))
            refine wpQuiet_nil ?_
            refine seg_eff rfl ?_
            go_wp2_with fail
            refine (only_any (s := ⟨kind, node, sess, req, ck, key, val, at_, n, keep, tear⟩) (v := .slice a N cap) (HR7.out.new (Only.refl _ _).drew)).mono ?_
            rintro e w8 ⟨ho8', u, rfl, hru⟩
            have ho8 : Only (fun _ => False) w7 w8 := (Only.refl _ _).drew.trans' ho8'
            rw [hon.out] at hru ⊢
            unfold Stp.cells Str
            go_wp2_with fail
            refine strict_intro ⟨⟨⟨w8, ho8⟩, rfl⟩, ?_⟩
            refine seg_list' _ _ _ _ (by kernel_rfl) ?_
            go_wp2_with fail
            refine (same_any (s := ⟨kind2, node2, sess2, req2, ck2, key2, val2, at2, n2, keep2, tear2⟩) (u := .slice a2 N2 cap2) (v := u) (HRW7.out.new ho8) hru).mono ?_
            rintro e w9 ⟨rfl, ho9⟩
            go_wp2_with fail
            refine strict_then ?_
            go_wp2_with fail
            go_ret
            exact ⟨rfl, (HO7.out.trans' ho8).trans' ho9⟩
        · rw [Htb.out, HSP.out] at hs'; cases hs'
      · rw [HT.out] at hn; cases hn
    · unfold Str
      go_wp2_with fail
      refine (sline_any (s := ⟨kind, node, sess, req, ck, key, val, at_, n, keep, tear⟩) (v := .slice a N cap) HF.out HR4.out (by simp only; omega) (by simp only; omega) (by simp only; omega) HE4.out).mono ?_
      rintro e w5 ⟨ho5, ⟨t2, ht2, rfl⟩ | ⟨hn2, rfl⟩⟩
      · rw [hn] at ht2; cases ht2
      · unfold Str
        go_wp2_with fail
        go_ret
        exact ⟨rfl, HO4.out.trans' ho5⟩
end Go.Proofs.YtcocmljollnpdaaDoor
