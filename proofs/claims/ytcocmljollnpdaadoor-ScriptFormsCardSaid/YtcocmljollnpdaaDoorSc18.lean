/- script: Parse. -/
import Derived.Test.YtcocmljollnpdaaDoorSc7
import Derived.Test.YtcocmljollnpdaaDoorSc10
import Derived.Test.YtcocmljollnpdaaDoorSc12
namespace Go.Proofs.YtcocmljollnpdaaDoor
open Go Go.RowKit Go.Dm
set_option linter.unusedVariables false
set_option linter.unusedSimpArgs false

def allSteps : List (List UInt8) → Option (List Stp)
  | [] => some []
  | l :: r => (stepL l).bind fun s => (allSteps r).map (s :: ·)
theorem allSteps_snoc : ∀ (ls : List (List UInt8)) (l : List UInt8) (L : List Stp) (s : Stp), allSteps ls = some L → stepL l = some s → allSteps (ls ++ [l]) = some (L ++ [s])
  | [], l, L, s, h, hs => by
    injection h with h; subst h
    simp [allSteps, hs]
  | x :: r, l, L, s, h, hs => by
    unfold allSteps at h
    obtain ⟨s1, h1, h⟩ := Option.bind_eq_some_iff.1 h
    obtain ⟨L1, h2, rfl⟩ := Option.map_eq_some_iff.1 h
    rw [List.cons_append]
    unfold allSteps
    rw [h1, allSteps_snoc r l L1 s h2 hs]; rfl
theorem allSteps_none : ∀ (ls : List (List UInt8)) (l : List UInt8), l ∈ ls → stepL l = none → allSteps ls = none
  | x :: r, l, hm, hs => by
    unfold allSteps
    rcases List.mem_cons.1 hm with rfl | hm
    · rw [hs]; rfl
    · rw [allSteps_none r l hm hs]
      cases stepL x <;> rfl
def parseL (t : List UInt8) : Option (List Stp) := if (sp 10 t).getD ((sp 10 t).length - 1) [] ≠ [] then none else allSteps ((sp 10 t).take ((sp 10 t).length - 1))
def flatS (L : List (Stp × Value)) : List Value := L.flatMap fun p => p.1.cells p.2
def ParseR (t : List UInt8) (w : World) (e : Ending) (w' : World) : Prop :=
  Only (fun _ => False) w w' ∧ ((∃ (L : List (Stp × Value)) (v : Value), parseL t = some (L.map (·.1)) ∧ e = .returned (.tuple #[v, .int .i64 0]) ∧ w'.ownsRow w.heap.size 27 11 v L.length (flatS L) ∧ ∀ p ∈ L, Row1 w' p.2 (bools p.1.keep)) ∨
    (parseL t = none ∧ e = .returned (.tuple #[.slice none 0 0, .int .i64 2])))
theorem info27 : (Tryd.prog.info? 27).map (fun i => (i.zero, i.size, i.bytes)) = some (some (.agg zer), 11, 120) := by kernel_rfl
theorem und38 : Tryd.prog.underlying 38 = some (.slice 27) := by kernel_rfl
set_option maxHeartbeats 1000000 in
set_option maxRecDepth 100000 in
theorem bsS {w : World} (x0 x1 x2 x3 x4 x5 x6 x7 x8 x9 x10 : Value) : (Instr.buildSlice 38 1 #[(0, .agg #[x0, x1, x2, x3, x4, x5, x6, x7, x8, x9, x10])]).run Tryd.prog w = .ok (.slice (some ⟨w.heap.size, 0, none⟩) 1 1) (w.alloc (.cells #[x0, x1, x2, x3, x4, x5, x6, x7, x8, x9, x10] 27)) := by
  simp [go_sem]
theorem cells_len (s : Stp) (v : Value) : (s.cells v).length = 11 := rfl
theorem new_cells {w : World} {cs : List Value} {t : TypeId} : ∀ j u, cs[j]? = some u → (w.alloc (.cells cs.toArray t)).cell? ((⟨w.heap.size, 0, none⟩ : Addr).add j) = some u := fun j u hj => by
  rw [add_none, Nat.zero_add]
  exact (cell_of_blk blk_alloc_new j).trans (by simpa using hj)
theorem one_step (s : Stp) (a : Option Addr) (n c : Nat) : ∀ u ∈ s.cells (.slice a n c), u.oneCell' = true := fun u hu => by
  unfold Stp.cells Str at hu
  simp at hu
  rcases hu with rfl | rfl | rfl | rfl | rfl | rfl | rfl | rfl | rfl | rfl | rfl <;> rfl
theorem own_base {w : World} {B B' : Nat} {e : TypeId} {size n : Nat} {v : Value} {xs : List Value} (hB : B ≤ B') (h : w.ownsRow B' e size v n xs) : w.ownsRow B e size v n xs := by
  obtain ⟨h1, h2⟩ := h
  refine ⟨h1, h2.imp id ?_⟩
  rintro ⟨g, cap, cur, hv, hb, r⟩
  exact ⟨g, cap, cur, hv, Nat.le_trans hB hb, r⟩
theorem wpl_build1 {P : Program} {ops : Array Oper} {Q : Exit → Act → World → Prop} {rest : List Oper} {o : Oper} {a : Act} {w w' : World} (hg : o.guard = none) (d : Tmp) (hd : o.dst = some d) {t : TypeId} {n : Nat} {parts : Array (Nat × Operand)} (hop : o.op = .buildSlice t n parts)
    {vals : Array (Nat × Value)} (hv : parts.map (fun (i, x) => (i, a.eval x)) = vals) {V : Value} (hrun : (Instr.buildSlice t n vals).run P w = .ok V w')
    (hK : wpList P ops Q rest (a.put d V) w') : wpList P ops Q (o :: rest) a w := by
  refine wpList_plain hg fun K' hK' => ?_
  unfold Oper.wp execOp
  simp only [hop, hv, bind, Sem.run_bind', hrun, Result.andThen_ok, pure, Sem.run]
  simp only [Oper.upon, hd]
  exact hK' _ _ hK
theorem row_only {S : Nat → Prop} {w w' : World} {v : Value} {xs : List Value} (h : Row1 w v xs) (ho : Only S w w') (hs : 0 < xs.length → ∀ b o n c, v = .slice (some ⟨b, o, none⟩) n c → ¬ S b) : Row1 w' v xs := by
  obtain ⟨a, cap, hv, hl, hm, h⟩ := h
  refine ⟨a, cap, hv, hl, hm, fun hn => ?_⟩
  obtain ⟨b, o, ha, hb, hc⟩ := h hn
  refine ⟨b, o, ha, Nat.lt_of_lt_of_le hb ho.size, fun i x hx => ?_⟩
  rw [World.cell?_of_block (w := w) (ho.block b hb (hs hn b o _ _ (by rw [hv, ha])))]
  exact hc i x hx
def Apart (L : List (Stp × Value)) (w : World) (v : Value) : Prop := ∀ p ∈ L, Row1 w p.2 (bools p.1.keep) ∧ (0 < p.1.keep.length → ∀ c, p.2.ownBlock = some c → v.ownBlock ≠ some c)
theorem bools_len (l : List Bool) : (bools l).length = l.length := by unfold bools; rw [List.length_map]
theorem rows_step {w3 w4 : World} {L : List (Stp × Value)} {s0 : Stp} {v0 v v4 : Value} (h1 : Apart L w3 v) (h2 : Row1 w3 v0 (bools s0.keep)) (h3 : 0 < s0.keep.length → ∀ c, v0.ownBlock = some c → v.ownBlock ≠ some c)
    (hg : Only (fun c => some c = v.ownBlock) w3 w4) (hloc : v4.ownBlock = v.ownBlock ∨ v4.ownBlock = some w3.heap.size) : Apart (L ++ [(s0, v0)]) w4 v4 := by
  intro p hp
  have key : Row1 w3 p.2 (bools p.1.keep) ∧ (0 < p.1.keep.length → ∀ c, p.2.ownBlock = some c → v.ownBlock ≠ some c) := by
    rcases List.mem_append.1 hp with h | h
    · exact h1 p h
    · obtain rfl := List.mem_singleton.1 h
      exact ⟨h2, h3⟩
  refine ⟨row_only key.1 hg fun h0 b o n c e hS => key.2 (by rwa [bools_len] at h0) b (by rw [e]; rfl) hS.symm, fun h0 c hc h4 => ?_⟩
  rcases hloc with h | h
  · exact key.2 h0 c hc (h ▸ h4)
  · rw [h] at h4
    injection h4 with h4
    obtain ⟨b, o, cap, hv, _, _, hb, _⟩ := key.1.addr (by rwa [bools_len])
    rw [hv] at hc
    have : b = c := by simpa [Value.ownBlock] using hc
    omega
theorem flatS_snoc (L : List (Stp × Value)) (s : Stp) (v : Value) : flatS (L ++ [(s, v)]) = flatS L ++ s.cells v := by
  unfold flatS; simp

set_option maxHeartbeats 8000000 in
set_option maxRecDepth 100000 in
theorem parse_any (s : ByteArray) (hs : s.size ≤ 1048576) {w : World} (hE : Env w) :
    Calls Tryd.prog 17 #[.string s] w (ParseR s.data.toList w) := by
  have HE := Lib.hid hE
  obtain ⟨i0, hinf, hz0, hz1, hz2⟩ := info_parts info27
  have Hinf := Lib.hid hinf
  have Hz0 := Lib.hid hz0
  have Hz1 := Lib.hid hz1
  have Hz2 := Lib.hid hz2
  clear hinf hz0 hz1 hz2 hE
  go_enter Tryd.func17, Tryd.ntmps17
  go_wp2_with fail
  refine (split_any 10 s (by omega) HE.out).mono ?_
  rintro e w1 ⟨ho1, v, ws, hws, rfl, hrow, hsz, hpos, hlen⟩
  obtain ⟨m, hm⟩ : ∃ m, ws.length = m + 1 := ⟨ws.length - 1, by omega⟩
  obtain ⟨b, o, cap, hv, hcap, hmax, hb, hc⟩ := hrow.addr (by simpa using hpos)
  rw [List.length_map, hm] at hv hcap
  subst hv
  have hml : m < ws.length := by omega
  have hxl := hc m (.string ws[m]) (by rw [List.getElem?_map, List.getElem?_eq_getElem hml]; rfl)
  have hlast := Lib.hid (show (sp 10 s.data.toList).getD ((sp 10 s.data.toList).length - 1) [] = ws[m].data.toList by
    rw [← hws, lists_len, hm, Nat.add_sub_cancel]
    exact lists_at (List.getElem?_eq_getElem hml))
  have HWS := Lib.hid hws
  have HSZ := Lib.hid hsz
  have HC := Lib.hid hc
  have HM := Lib.hid hm
  have HE1 := Lib.hid (HE.out.new ho1)
  have HO1 := Lib.hid ho1
  have hm2 : m ≤ 1048576 := by omega
  generalize ws[m] = xl at *
  clear hrow hws hsz hpos hc hml hlen ho1 hm
  have p0 : (0 : Int) ≤ (m : Int) := by omega
  by_cases hl0 : xl.data.toList = []
  · have e0 := isEmpty_true hl0
    have HP := Lib.hid (show parseL s.data.toList = allSteps ((sp 10 s.data.toList).take m) by
      unfold parseL
      rw [hlast.out, if_neg (by simpa using hl0), ← HWS.out, lists_len, HM.out, Nat.add_sub_cancel])
    clear hl0 hlast
    go_wp2_with fail
    go_loopw [5, 25] (fun ov iv wr => ∃ (k : Nat) (L : List (Stp × Value)), k ≤ m ∧ L.length = k ∧ iv = .int .i64 (k : Int) ∧ Hid (allSteps ((sp 10 s.data.toList).take k) = some (L.map (·.1))) ∧ Hid (wr.ownsRow w1.heap.size 27 11 ov k (flatS L)) ∧ Hid (Apart L wr ov) ∧ Only (fun _ => False) w1 wr) (fun _ iv _ => m - (intOf iv).toNat)
    case atStart => exact ⟨0, [], Nat.zero_le _, rfl, rfl, by unfold Hid; rfl, own_nil _ _ _ _, by unfold Hid Apart; simp, Only.refl _ _⟩
    case round =>
      obtain ⟨k, L, hk, hLk, rfl, HA, HOW, HRS, ho⟩ := hrel
      obtain ⟨ad, cv, rfl⟩ := own_slice HOW.out
      have HLk := Lib.hid hLk
      clear hLk
      by_cases hlt : k < m
      · have hkw : k < ws.length := by rw [HM.out]; omega
        have x1 := HC.out k (.string ws[k]) (by rw [List.getElem?_map, List.getElem?_eq_getElem hkw]; rfl)
        have hln : (sp 10 s.data.toList)[k]? = some ws[k].data.toList := by
          rw [← HWS.out]; unfold lists
          rw [List.getElem?_map, List.getElem?_eq_getElem hkw]; rfl
        have hxs : ws[k].size ≤ 1048576 := Nat.le_trans (HSZ.out _ (List.getElem_mem hkw)) hs
        have y1 : wr.cell? ⟨b, o + k, none⟩ = some (.string ws[k]) := by rw [World.cell?_of_block (w := w1) (ho.block b hb id)]; exact x1
        have HT := Lib.hid (show (sp 10 s.data.toList).take (k + 1) = (sp 10 s.data.toList).take k ++ [ws[k].data.toList] by
          rw [List.take_add_one, hln]; rfl)
        have HMEM := Lib.hid (show ws[k].data.toList ∈ (sp 10 s.data.toList).take m from List.mem_of_getElem? (i := k) (by rw [List.getElem?_take, if_pos hlt]; exact hln))
        generalize ws[k] = x at *
        have q0 : (0 : Int) ≤ (k : Int) := by omega
        have q1 : (k : Int) < (m : Int) := by omega
        clear x1 hln
        go_wp2_with fail
        refine (step_new x hxs (HE1.out.new ho)).mono ?_
        rintro e w2 ⟨ho2, ⟨s', v', hs', rfl, hrow', hfr⟩ | ⟨hs', rfl⟩⟩
        · have HN := Lib.hid (show allSteps ((sp 10 s.data.toList).take (k + 1)) = some (L.map (·.1) ++ [s']) by rw [HT.out]; exact allSteps_snoc _ _ _ _ HA.out hs')
          clear hs' HA
          obtain ⟨kind, node, sess, req, ck, key, val, at_, n, keep, tear⟩ := s'
          have HRW := Lib.hid hrow'
          obtain ⟨a, cap2, hv2, _⟩ := hrow'
          generalize (bools _).length = N at hv2
          subst hv2
          have HF := Lib.hid hfr
          clear hfr
          unfold Stp.cells Str
          go_upto_region 11 with fail
          have hoA : Only (fun _ => False) w1 (w2.alloc (.cells #[(.int .i64 kind : Value), .int .i64 node, .int .i64 sess, .int .i64 req, .int .i64 ck, .string ⟨key.toArray⟩, .string ⟨val.toArray⟩, .int .i64 at_, .int .i64 n, .slice a N cap2, .int .i64 tear] 27)) := (ho.trans' ho2).alloc _
          have kD : (w2.alloc (.cells #[(.int .i64 kind : Value), .int .i64 node, .int .i64 sess, .int .i64 req, .int .i64 ck, .string ⟨key.toArray⟩, .string ⟨val.toArray⟩, .int .i64 at_, .int .i64 n, .slice a N cap2, .int .i64 tear] 27)).heap[w2.heap.size]? = some (.cells #[(.int .i64 kind : Value), .int .i64 node, .int .i64 sess, .int .i64 req, .int .i64 ck, .string ⟨key.toArray⟩, .string ⟨val.toArray⟩, .int .i64 at_, .int .i64 n, .slice a N cap2, .int .i64 tear] 27 (0, 0)) := blk_alloc_new
          have HO3 := Lib.hid (ownsRow_only HOW.out (show Only (fun _ => False) wr (w2.alloc (.cells #[(.int .i64 kind : Value), .int .i64 node, .int .i64 sess, .int .i64 req, .int .i64 ck, .string ⟨key.toArray⟩, .string ⟨val.toArray⟩, .int .i64 at_, .int .i64 n, .slice a N cap2, .int .i64 tear] 27)) from ho2.alloc _) (fun _ _ h => h))
          have HRW3 := Lib.hid (HRW.out.new ((Only.refl _ _).alloc (.cells #[(.int .i64 kind : Value), .int .i64 node, .int .i64 sess, .int .i64 req, .int .i64 ck, .string ⟨key.toArray⟩, .string ⟨val.toArray⟩, .int .i64 at_, .int .i64 n, .slice a N cap2, .int .i64 tear] 27)))
          have HRS3 := Lib.hid (show Apart L (w2.alloc (.cells #[(.int .i64 kind : Value), .int .i64 node, .int .i64 sess, .int .i64 req, .int .i64 ck, .string ⟨key.toArray⟩, .string ⟨val.toArray⟩, .int .i64 at_, .int .i64 n, .slice a N cap2, .int .i64 tear] 27)) (.slice ad k cv) from fun p hp => ⟨(HRS.out p hp).1.new (show Only (fun _ => False) wr (w2.alloc (.cells #[(.int .i64 kind : Value), .int .i64 node, .int .i64 sess, .int .i64 req, .int .i64 ck, .string ⟨key.toArray⟩, .string ⟨val.toArray⟩, .int .i64 at_, .int .i64 n, .slice a N cap2, .int .i64 tear] 27)) from ho2.alloc _), (HRS.out p hp).2⟩)
          have HD := Lib.hid (res_own kD)
          have HOA := Lib.hid hoA
          have hgl := Lib.hid (fun c (h : (Value.slice ad k cv).ownBlock = some c) => (own_blk HOW.out h).2)
          clear hoA kD
          generalize (w2.alloc (.cells #[(.int .i64 kind : Value), .int .i64 node, .int .i64 sess, .int .i64 req, .int .i64 ck, .string ⟨key.toArray⟩, .string ⟨val.toArray⟩, .int .i64 at_, .int .i64 n, .slice a N cap2, .int .i64 tear] 27)) = w3 at *
          generalize w2.heap.size = D at *
          go_step
          go_step
          go_step
          go_step
          refine wpl_load27 rfl _ rfl _ rfl (b := D) rfl HD.out ?_
          refine wpl_build1 rfl _ rfl rfl (vals := #[(0, .agg #[(.int .i64 kind : Value), .int .i64 node, .int .i64 sess, .int .i64 req, .int .i64 ck, .string ⟨key.toArray⟩, .string ⟨val.toArray⟩, .int .i64 at_, .int .i64 n, .slice a N cap2, .int .i64 tear])]) (by simp [Act.eval, Act.put]) (bsS _ _ _ _ _ _ _ _ _ _ _) ?_
          refine wpList_append_own_at _ rfl _ _ 38 rfl w1.heap.size 27 i0 (.agg zer) 11 120 und38 Hinf.out Hz0.out Hz1.out Hz2.out rfl (by decide) (.slice ad k cv) k (flatS L) rfl (HO3.out.alloc _) ⟨w3.heap.size, 0, none⟩ 1 1 (Stp.cells ⟨kind, node, sess, req, ck, key, val, at_, n, keep, tear⟩ (.slice a N cap2)) rfl rfl new_cells (one_step _ _ _ _) (by unfold maxLen; omega) (by omega) (Nat.le_trans HOA.out.size (by simp)) ?_
          intro v4 w4 hown4 hgrow4 _ hloc4
          have ho4 : Only (fun _ => False) w1 w4 := own_grown (HOA.out.alloc _) (HO3.out.alloc _) (Nat.le_refl _) hgrow4
          have HRS4 := Lib.hid (rows_step (s0 := ⟨kind, node, sess, req, ck, key, val, at_, n, keep, tear⟩) (v0 := .slice a N cap2) (fun p hp => ⟨(HRS3.out p hp).1.new ((Only.refl _ _).alloc (.cells #[(.int .i64 kind : Value), .int .i64 node, .int .i64 sess, .int .i64 req, .int .i64 ck, .string ⟨key.toArray⟩, .string ⟨val.toArray⟩, .int .i64 at_, .int .i64 n, .slice a N cap2, .int .i64 tear] 27)), (HRS3.out p hp).2⟩) (HRW3.out.new ((Only.refl _ _).alloc (.cells #[(.int .i64 kind : Value), .int .i64 node, .int .i64 sess, .int .i64 req, .int .i64 ck, .string ⟨key.toArray⟩, .string ⟨val.toArray⟩, .int .i64 at_, .int .i64 n, .slice a N cap2, .int .i64 tear] 27))) (fun _ c hc h => by have h1 := HF.out c hc; have h2 := hgl.out c h; omega) (Only.of_grown hgrow4) hloc4)
          have HOW4 := Lib.hid hown4
          clear hown4 hgrow4 hloc4 HRS3 HRW3
          go_wp2_with fail
          go_roundw
          case rel => exact ⟨k + 1, L ++ [(⟨kind, node, sess, req, ck, key, val, at_, n, keep, tear⟩, .slice a N cap2)], by omega, by rw [List.length_append, HLk.out]; rfl, by simp, by unfold Hid; rw [HN.out, List.map_append]; rfl, by unfold Hid; rw [flatS_snoc]; exact HOW4.out, HRS4, ho4⟩
          case measure => simp [intOf]; omega
        · have HN := Lib.hid (show parseL s.data.toList = none by rw [HP.out]; exact allSteps_none _ _ HMEM.out hs')
          clear hs'
          unfold stp0 Stp.cells Str
          go_wp2_with fail
          go_ret2
          exact ⟨(HO1.out.trans' (ho.trans' ho2)).alloc _, .inr ⟨HN.out, rfl⟩⟩
      · obtain rfl : k = m := by omega
        go_wp2_with fail
        go_ret2
        refine ⟨HO1.out.trans' ho, .inl ⟨L, _, by rw [HP.out]; exact HA.out, rfl, ?_, fun p hp => (HRS.out p hp).1⟩⟩
        rw [HLk.out]
        exact own_base HO1.out.size HOW.out
  · have e0 := isEmpty_false hl0
    have HP := Lib.hid (show parseL s.data.toList = none by
      unfold parseL
      rw [hlast.out, if_pos hl0])
    clear hl0 hlast
    go_wp2_with fail
    go_ret2
    exact ⟨HO1.out, .inr ⟨HP.out, rfl⟩⟩
end Go.Proofs.YtcocmljollnpdaaDoor
