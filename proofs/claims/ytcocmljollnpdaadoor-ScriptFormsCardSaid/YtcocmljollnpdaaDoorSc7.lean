/- script: Step. -/
import Derived.Test.YtcocmljollnpdaaDoorSc6
import Derived.Deep.RegionWith
import Derived.Deep.Cut
import Derived.Deep.CutRange
import Derived.Deep.DeepCutAuto
namespace Go.Proofs.YtcocmljollnpdaaDoor
open Go Go.RowKit Go.Dm
set_option linter.unusedVariables false
set_option linter.unusedSimpArgs false

def StepR (t : List UInt8) (w : World) (e : Ending) (w' : World) : Prop :=
  Only (fun _ => False) w w' ∧
    ((∃ s v, stepL t = some s ∧ e = .returned (.tuple #[.agg (s.cells v).toArray, .bool true]) ∧ Row1 w' v (bools s.keep)) ∨
      (stepL t = none ∧ e = .returned (.tuple #[.agg (stp0.cells (.slice none 0 0)).toArray, .bool false])))

/-- The same, and the truths lie in a new block. -/
def StepN (t : List UInt8) (w : World) (e : Ending) (w' : World) : Prop :=
  Only (fun _ => False) w w' ∧
    ((∃ s v, stepL t = some s ∧ e = .returned (.tuple #[.agg (s.cells v).toArray, .bool true]) ∧ Row1 w' v (bools s.keep) ∧ ∀ c, v.ownBlock = some c → w.heap.size ≤ c) ∨
      (stepL t = none ∧ e = .returned (.tuple #[.agg (stp0.cells (.slice none 0 0)).toArray, .bool false])))

theorem words_at (c : UInt8) (s : ByteArray) : lists (Lib.splitB ⟨#[c]⟩ 0 (Lib.countB s ⟨#[c]⟩) s) = sp c s.data.toList := splitB_sp c s
theorem words_len (c : UInt8) (s : ByteArray) : (Lib.splitB ⟨#[c]⟩ 0 (Lib.countB s ⟨#[c]⟩) s).length = Lib.countB s ⟨#[c]⟩ + 1 := Lib.splitB_all ⟨#[c]⟩ (Nat.le_refl 1) 0 _ s rfl
theorem sp_len (c : UInt8) (l : List UInt8) : (∀ w ∈ sp c l, w.length ≤ l.length) ∧ (sp c l).length ≤ l.length + 1 := by
  induction l with
  | nil => simp [sp]
  | cons x l ih =>
    obtain ⟨h1, h2⟩ := ih
    unfold sp
    by_cases h : x = c
    · rw [if_pos h]
      refine ⟨fun w hw => ?_, by simp; omega⟩
      simp only [List.mem_cons] at hw
      rcases hw with rfl | hw
      · simp
      · have := h1 w hw; simp; omega
    · rw [if_neg h]
      have hne := sp_ne c l
      match hs : sp c l, hne with
      | v :: r, _ =>
        rw [hs] at h1 h2
        refine ⟨fun w hw => ?_, by simpa using Nat.le_succ_of_le h2⟩
        simp only [List.mem_cons] at hw
        rcases hw with rfl | hw
        · have := h1 v (by simp); simp; omega
        · have := h1 w (by simp [hw]); simp; omega

/-- What Split hands back. -/
def SplitR (c : UInt8) (s : ByteArray) (w : World) (e : Ending) (w' : World) : Prop :=
  Only (fun _ => False) w w' ∧ ∃ v ws, lists ws = sp c s.data.toList ∧ e = .returned v ∧ Row1 w' v (ws.map Value.string) ∧ (∀ x ∈ ws, x.size ≤ s.size) ∧ 0 < ws.length ∧ ws.length ≤ s.size + 1
theorem split_any (c : UInt8) (s : ByteArray) (hs : s.size ≤ 16777216) {w : World} (hE : Env w) :
    Calls Tryd.prog 20 #[.string s, .string ⟨#[c]⟩] w (SplitR c s w) := by
  obtain ⟨m, hm⟩ := hE.len
  refine (Tryd.strings_Split s ⟨#[c]⟩ m w (by omega) hm (Nat.le_refl 1)).mono ?_
  rintro e w1 ⟨he, rfl⟩
  have hw := words_at c s
  have hl := words_len c s
  generalize Lib.splitB ⟨#[c]⟩ 0 (Lib.countB s ⟨#[c]⟩) s = ws at *
  have hsl : s.data.toList.length = s.size := by simp
  have h1 := (sp_len c s.data.toList).1
  have h2 := (sp_len c s.data.toList).2
  rw [← hw, hsl] at h1 h2
  have hl2 : (lists ws).length = ws.length := by unfold lists; simp
  refine ⟨(Only.refl _ _).alloc _, _, ws, hw, he, ⟨_, _, by rw [List.length_map, hl], by rw [List.length_map, hl]; exact Nat.le_refl _, by unfold maxLen; omega, fun _ => ⟨_, 0, rfl, by simp, fun i x hx => ?_⟩⟩, fun x hx => ?_, by omega, by omega⟩
  · rw [Nat.zero_add]
    exact (cell_of_blk blk_alloc_new i).trans (by simpa using hx)
  · have := h1 x.data.toList (by unfold lists; exact List.mem_map.2 ⟨x, hx, rfl⟩)
    simpa using this

theorem und51 : Tryd.prog.underlying 51 = some (.map 3 3) := by kernel_rfl
noncomputable def intE : KE Tryd.prog 3 Int := KE.ofKeyed (fun n => .int .i64 n) (fun n => (Lit.int .i64 n).wf = true) (fun a b h => by injection h) (Maps.int_keyed Tryd.underlying3) (fun a ha => ⟨_, Maps.keyOf_int_mk Tryd.underlying3 ha⟩)
theorem int_ok {n : Int} (h1 : -9223372036854775808 ≤ n) (h2 : n ≤ 9223372036854775807) : intE.ok n := WalkArith.wf_i64 (by omega)
def cnt (k : Nat) : Int := if k = 1 then 7 else if k = 7 then 3 else if k = 9 then 5 else 0
theorem cnt_get (k : Nat) : (aget (aput (aput (aput ([] : List (Int × Value)) 1 (.int .i64 7)) 7 (.int .i64 3)) 9 (.int .i64 5)) (k : Int)).getD (.int .i64 0) = .int .i64 (cnt k) := by
  rw [aget_aput, aget_aput, aget_aput]
  unfold cnt
  by_cases h9 : k = 9
  · subst h9; rfl
  · by_cases h7 : k = 7
    · subst h7; rfl
    · by_cases h1 : k = 1
      · subst h1; rfl
      · rw [if_neg (by omega), if_neg (by omega), if_neg (by omega), if_neg h1, if_neg h7, if_neg h9]; rfl
theorem zero3 (w : World) : (zeroValue 3).run Tryd.prog w = .ok (.int .i64 0) w := by kernel_rfl

def zer : Array Value := #[.int .i64 0, .int .i64 0, .int .i64 0, .int .i64 0, .int .i64 0, .string ⟨#[]⟩, .string ⟨#[]⟩, .int .i64 0, .int .i64 0, .slice none 0 0, .int .i64 0]

theorem zer_one : ∀ v ∈ zer.toList, v.oneCell' = true := by decide
theorem res_own {w : World} {b : Nat} {cs : Array Value} (h : w.heap[b]? = some (.cells cs 27 (0, 0))) (hs : cs.size = 11 := by rfl) : w.ownsRow 0 27 11 (.slice (some ⟨b, 0, none⟩) 1 1) 1 cs.toList :=
  ⟨by simp [hs], .inr ⟨b, 1, cs, rfl, Nat.zero_le _, h, Nat.le_refl _, by decide, by simp [hs], by rw [List.take_of_length_le (by simp [hs])]⟩⟩

theorem res_cells {w : World} {b : Nat} {xs : List Value} (h : w.ownsRow 0 27 11 (.slice (some ⟨b, 0, none⟩) 1 1) 1 xs) (i : Nat) {x : Value} (hx : xs[i]? = some x) : w.cell? ⟨b, i, none⟩ = some x := by
  have hl : xs.length = 11 := h.1
  have hi := (List.getElem?_eq_some_iff.1 hx).1
  rw [h.cellAt i (by omega)]; exact hx

theorem lists_at {ws : List ByteArray} {i : Nat} {x : ByteArray} (h : ws[i]? = some x) : (lists ws).getD i [] = x.data.toList := by
  unfold lists
  rw [List.getD_eq_getElem?_getD, List.getElem?_map, h]; rfl
theorem lists_len (ws : List ByteArray) : (lists ws).length = ws.length := by unfold lists; simp
theorem step_no0 {t : List UInt8} {ws : List ByteArray} {s0 : ByteArray} {k : Nat} (h : lists ws = sp 32 t) (h0 : ws[0]? = some s0) (hk : kindL stepsT s0.data.toList = k) (k0 : k = 0) : stepL t = none := by
  unfold stepL stepW
  rw [← h, lists_at h0, hk, if_pos (.inl k0)]
theorem step_noN {t : List UInt8} {ws : List ByteArray} {s0 : ByteArray} {k n : Nat} (h : lists ws = sp 32 t) (h0 : ws[0]? = some s0) (hk : kindL stepsT s0.data.toList = k) (hn : ws.length = n) (hnk : n ≠ countOf k) : stepL t = none := by
  unfold stepL stepW
  rw [← h, lists_at h0, hk, lists_len, hn, if_pos (.inr hnk)]
theorem step_is {t : List UInt8} {ws : List ByteArray} {s0 : ByteArray} {k n : Nat} (h : lists ws = sp 32 t) (h0 : ws[0]? = some s0) (hk : kindL stepsT s0.data.toList = k) (hn : ws.length = n) (k0 : k ≠ 0) (hnk : n = countOf k) :
    stepL t = (numsL (lists ((ws.drop 1).take (min (countOf k) 4 - 1)))).bind fun ns => stepN k ns (lists ws) := by
  unfold stepL stepW
  rw [← h, lists_at h0, hk, lists_len, hn, if_neg (by simp [k0, hnk])]
  congr 2
  unfold lists
  rw [List.map_take, List.map_drop, List.drop_take]
theorem step_default {k : Nat} (h : 2 ≤ k ∧ k ≤ 5) {n0 : Int} {ws : List (List UInt8)} : (some [n0]).bind (fun ns => stepN k ns ws) = some ⟨(k : Int), 0, 0, 0, 0, [], [], n0, 0, [], 0⟩ := by
  show stepN k [n0] ws = _
  unfold stepN
  rw [if_neg (by omega), if_neg (by omega), if_neg (by omega), if_neg (by omega)]; rfl
theorem cnt_zero {k : Nat} (hk : k < 10) (h : cnt k = 0) (k0 : k ≠ 0) : countOf k = 2 := by
  unfold cnt at h
  unfold countOf
  split at h
  · cases h
  · split at h
    · cases h
    · split at h
      · cases h
      · rw [if_neg (by assumption), if_neg (by assumption), if_neg (by assumption)]
theorem cnt_one {k : Nat} (h : cnt k ≠ 0) : cnt k = (countOf k : Int) := by
  unfold cnt at *
  unfold countOf
  split
  · rfl
  · rename_i h1
    rw [if_neg h1] at h
    split
    · rfl
    · rename_i h2
      rw [if_neg h2] at h
      split
      · rfl
      · rename_i h3
        rw [if_neg h3] at h
        exact absurd rfl h
theorem kcases {k : Nat} (hk : k < 10) (k0 : k ≠ 0) : k = 1 ∨ k = 9 ∨ k = 7 ∨ k = 6 ∨ k = 8 ∨ (2 ≤ k ∧ k ≤ 5) := by omega
theorem sub_row {w : World} {b o n cap m : Nat} {ws : List ByteArray} (h : Row1 w (.slice (some ⟨b, o, none⟩) n cap) (ws.map Value.string)) (hn : ws.length = n) (hm : m + 1 ≤ n) (hm0 : 0 < m) :
    Row1 w (.slice (some ⟨b, o + 1, none⟩) m (cap - 1)) (((ws.drop 1).take m).map Value.string) := by
  obtain ⟨a, cap', hv, hl, hmx, hc⟩ := h
  injection hv with h1 h2 h3
  subst h1; subst h3
  rw [List.length_map] at hl hc
  have hlen : (((ws.drop 1).take m).map Value.string).length = m := by simp; omega
  refine ⟨_, _, by rw [hlen], by rw [hlen]; omega, by omega, fun _ => ?_⟩
  obtain ⟨b', o', ha, hb, hcc⟩ := hc (by omega)
  injection ha with ha
  injection ha with hb1 ho1 _
  subst hb1; subst ho1
  refine ⟨b, o + 1, rfl, hb, fun i x hx => ?_⟩
  rw [Nat.add_assoc]
  refine hcc (1 + i) x ?_
  have hi : i < m := by have := (List.getElem?_eq_some_iff.1 hx).1; omega
  rw [List.getElem?_map, List.getElem?_take, if_pos hi, List.getElem?_drop] at hx
  rw [List.getElem?_map]; exact hx

set_option maxHeartbeats 8000000 in
set_option maxRecDepth 100000 in
theorem step_new (s : ByteArray) (hs : s.size ≤ 1048576) {w : World} (hE : Env w) :
    Calls Tryd.prog 9 #[.string s] w (StepN s.data.toList w) := by
  have HE := Lib.hid hE
  clear hE
  go_enter Tryd.func9, Tryd.ntmps9
  go_wp2_with fail
  refine (split_any 32 s (by omega) (HE.out.new ((Only.refl _ _).alloc _))).mono ?_
  rintro e w1 ⟨ho1, v, ws, hws, rfl, hrow, hsz, hn0, hn1⟩
  have hoA := ((Only.refl (fun _ => False) w).alloc (.cells zer 27)).trans' ho1
  have hR : w1.heap[w.heap.size]? = some (.cells zer 27 (0, 0)) := ho1.blk blk_alloc_new id
  have hE1 := Lib.hid (HE.out.new hoA)
  obtain ⟨b, o, cap, hv, hcap, hmax, hb, hc⟩ := hrow.addr (by simpa using hn0)
  rw [List.length_map] at hv hcap
  subst hv
  obtain ⟨s0, hs0⟩ : ∃ s0, ws[0]? = some s0 := ⟨_, List.getElem?_eq_getElem hn0⟩
  have hc0 := hc 0 (.string s0) (by rw [List.getElem?_map, hs0]; rfl)
  have HW := Lib.hid hws
  have HC := Lib.hid hc
  have HR := Lib.hid hR
  have Hrow := Lib.hid hrow
  have Hsz := Lib.hid hsz
  have Hs0 := Lib.hid hs0
  clear hws hc hR hrow hsz hs0 ho1
  generalize hN : ws.length = n at *
  have HN := Lib.hid hN
  clear hN
  have q0 : (0 : Int) < (n : Int) := by omega
  have hST : ∀ w', Only (fun _ => False) w1 w' → Row1 w' (.slice (some ⟨0, 0, none⟩) 10 10) (stepsT.map Str) := fun w' ho => hE1.out.stepsRow.new ho
  have HST := Lib.hid hST
  clear hST
  rw [Nat.add_zero] at hc0
  go_upto_region 2 with fail
  go_cut [5] from 13 to 18 (fun p wx => p = .pointer (some ⟨w1.heap.size, 0, none⟩) ∧ wx = (w1.alloc (.cells #[.int .i64 (kindL stepsT s0.data.toList), .int .i64 0, .int .i64 0, .int .i64 0, .int .i64 0, .string ⟨#[]⟩, .string ⟨#[]⟩, .int .i64 0, .int .i64 0, .slice none 0 0, .int .i64 0] 27)).drew)
  case first =>
    go_region_with (go_at_call 21; refine (kind_any s0 (HST.out _ (by first | exact (Only.refl _ _).drew | exact ((Only.refl _ _).alloc _).drew)) (by decide) (by decide)).mono ?_; rintro e w' ⟨rfl, rfl⟩)
    all_goals
      go_wp2_with fail
      go_meet
      exact ⟨rfl, rfl⟩
  case rest =>
    obtain ⟨rfl, rfl⟩ := hcut
    have hk : kindL stepsT s0.data.toList < 10 := kindL_lt stepsT s0.data.toList (by decide)
    generalize hK : kindL stepsT s0.data.toList = k at *
    have HK := Lib.hid hK
    have hsB : (w1.alloc (.cells #[.int .i64 (k : Int), .int .i64 0, .int .i64 0, .int .i64 0, .int .i64 0, .string ⟨#[]⟩, .string ⟨#[]⟩, .int .i64 0, .int .i64 0, .slice none 0 0, .int .i64 0] 27)).drew.heap[w1.heap.size]? = _ := blk_alloc_new
    have hoB : Only (fun _ => False) w1 (w1.alloc (.cells #[.int .i64 (k : Int), .int .i64 0, .int .i64 0, .int .i64 0, .int .i64 0, .string ⟨#[]⟩, .string ⟨#[]⟩, .int .i64 0, .int .i64 0, .slice none 0 0, .int .i64 0] 27)).drew := by
      repeat' (first | exact Only.refl _ _ | refine Only.drewN ?_ _ | refine Only.drew ?_ | refine Only.alloc ?_ _ | refine Only.setCell ?_ (fun _ => by simp) _ | refine Only.setBlk ?_ (fun _ => by simp) _)
    have hr1 : w.heap.size < w1.heap.size := blk_lt HR.out
    have hR2 := Lib.hid (hoB.blk HR.out id)
    have hrow2 := Lib.hid (Hrow.out.new hoB)
    have hE2 := Lib.hid (hE1.out.new hoB)
    have hoC := hoA.trans' hoB
    have he10 : 10 ≤ w1.heap.size := hE1.out.big
    obtain ⟨sb, hsb⟩ : ∃ sb, sb = w1.heap.size := ⟨_, rfl⟩
    rw [← hsb] at hsB hr1 he10
    rw [← hsb]
    have hbs : b < sb := by rw [hsb]; exact hb
    clear hK hsb hc0 HST HC HR Hrow hE1 hb
    generalize (w1.alloc (.cells #[.int .i64 (k : Int), .int .i64 0, .int .i64 0, .int .i64 0, .int .i64 0, .string ⟨#[]⟩, .string ⟨#[]⟩, .int .i64 0, .int .i64 0, .slice none 0 0, .int .i64 0] 27)).drew = w2 at *
    clear hoA hoB
    have HsB := Lib.hid hsB
    have zsb := blk_lt hsB
    have d0 := cell_of_blk hsB 0
    simp only [List.getElem?_toArray, List.getElem?_cons_zero] at d0
    clear hsB
    have hmm := @run_makeMap Tryd.prog
    obtain ⟨o1, r1, hm1⟩ := (MapIs.made intE w2).update und51 1 (int_ok (by decide) (by decide)) (.int .i64 7)
    have r1' : (Instr.mapUpdate 51 (.map (some w2.heap.size)) (.int .i64 1) (.int .i64 7)).run Tryd.prog (w2.alloc (.map #[] 0)) = _ := r1
    obtain ⟨o2, r2, hm2⟩ := hm1.update und51 7 (int_ok (by decide) (by decide)) (.int .i64 3)
    have r2' : (Instr.mapUpdate 51 (.map (some w2.heap.size)) (.int .i64 7) (.int .i64 3)).run Tryd.prog _ = _ := r2
    obtain ⟨o3, r3, hm3⟩ := hm2.update und51 9 (int_ok (by decide) (by decide)) (.int .i64 5)
    have r3' : (Instr.mapUpdate 51 (.map (some w2.heap.size)) (.int .i64 9) (.int .i64 5)).run Tryd.prog _ = _ := r3
    have r4 := hm3.lookup und51 (zero3 _) (k : Int) (int_ok (by omega) (by omega)) false
    rw [if_neg (by decide), cnt_get] at r4
    have r4' : (Instr.lookup 51 (.map (some w2.heap.size)) (.int .i64 (k : Int)) false).run Tryd.prog _ = .ok (.int .i64 (cnt k)) _ := r4
    have hoD : Only (fun _ => False) w2 (setBlk (setBlk (setBlk (w2.alloc (.map #[] 0)) w2.heap.size o1) w2.heap.size o2) w2.heap.size o3) := by
      refine ((((Only.refl _ _).alloc _).setBlk ?_ _).setBlk ?_ _).setBlk ?_ _ <;> exact fun h => absurd h (Nat.lt_irrefl _)
    have HsD := Lib.hid (hoD.blk HsB.out id)
    clear r1 r2 r3 r4 hm1 hm2 hm3
    generalize setBlk (setBlk (setBlk (w2.alloc (.map #[] 0)) w2.heap.size o1) w2.heap.size o2) w2.heap.size o3 = w3 at *
    have HR3 := Lib.hid (hoD.blk hR2.out id)
    have hrow3 := Lib.hid (hrow2.out.new hoD)
    have hE3 := Lib.hid (hE2.out.new hoD)
    have hoE := hoC.trans' hoD
    have zsb3 := blk_lt HsD.out
    have d1 := cell_of_blk HsD.out 0
    simp only [List.getElem?_toArray, List.getElem?_cons_zero] at d1
    clear d0 hoD hR2 hrow2 hE2 hoC HsB zsb
    go_upto_region 4 with fail
    have HO := Lib.hid (res_own HR3.out)
    by_cases k0 : k = 0
    · as_aux_lemma =>
        have HN0 := Lib.hid (show stepL s.data.toList = none from step_no0 HW.out Hs0.out HK.out k0)
        have c0 : cnt k = 0 := by rw [k0]; rfl
        have g0 : ((k : Int) == 0) = true := by simp [k0]
        clear k0
        go_upto_region 7 with fail
        iterate 4 go_step
        refine wpl_store_row rfl rfl 27 _ _ rfl 0 27 11 w.heap.size 1 1 0 zer.toList HO.out (by decide) _ rfl rfl (.agg zer) zer.toList rfl rfl rfl (by kernel_rfl) zer_one ?_
        intro ob HO1
        have ho5 := hoE.setBlk (b := w.heap.size) (fun h => absurd h (Nat.lt_irrefl _)) ob
        have r0 := res_cells HO1 0 rfl
        have r1 := res_cells HO1 1 rfl
        have r2 := res_cells HO1 2 rfl
        have r3 := res_cells HO1 3 rfl
        have r4 := res_cells HO1 4 rfl
        have r5 := res_cells HO1 5 rfl
        have r6 := res_cells HO1 6 rfl
        have r7 := res_cells HO1 7 rfl
        have r8 := res_cells HO1 8 rfl
        have r9 := res_cells HO1 9 rfl
        have r10 := res_cells HO1 10 rfl
        clear HO1
        generalize setBlk w3 w.heap.size ob = w5 at *
        go_wp2_with fail
        exact bodyPost_ret (v := .tuple #[.agg (stp0.cells (.slice none 0 0)).toArray, .bool false]) (by simp [results, Tryd.results9, go_sem, stp0, Stp.cells, Str, r0, r1, r2, r3, r4, r5, r6, r7, r8, r9, r10]) rfl ⟨ho5, .inr ⟨HN0.out, rfl⟩⟩
    · by_cases hnk : n ≠ countOf k
      · as_aux_lemma =>
          have HN0 := Lib.hid (show stepL s.data.toList = none from step_noN HW.out Hs0.out HK.out HN.out hnk)
          have g0 : ((k : Int) == 0) = false := by simp; omega
          by_cases c0 : cnt k = 0
          · have g1 : ((n : Int) != 2) = true := by have := cnt_zero hk c0 k0; simp; omega
            clear k0 hnk
            go_upto_region 7 with fail
            iterate 4 go_step
            refine wpl_store_row rfl rfl 27 _ _ rfl 0 27 11 w.heap.size 1 1 0 zer.toList HO.out (by decide) _ rfl rfl (.agg zer) zer.toList rfl rfl rfl (by kernel_rfl) zer_one ?_
            intro ob HO1
            have ho5 := hoE.setBlk (b := w.heap.size) (fun h => absurd h (Nat.lt_irrefl _)) ob
            have r0 := res_cells HO1 0 rfl
            have r1 := res_cells HO1 1 rfl
            have r2 := res_cells HO1 2 rfl
            have r3 := res_cells HO1 3 rfl
            have r4 := res_cells HO1 4 rfl
            have r5 := res_cells HO1 5 rfl
            have r6 := res_cells HO1 6 rfl
            have r7 := res_cells HO1 7 rfl
            have r8 := res_cells HO1 8 rfl
            have r9 := res_cells HO1 9 rfl
            have r10 := res_cells HO1 10 rfl
            clear HO1
            generalize setBlk w3 w.heap.size ob = w5 at *
            go_wp2_with fail
            exact bodyPost_ret (v := .tuple #[.agg (stp0.cells (.slice none 0 0)).toArray, .bool false]) (by simp [results, Tryd.results9, go_sem, stp0, Stp.cells, Str, r0, r1, r2, r3, r4, r5, r6, r7, r8, r9, r10]) rfl ⟨ho5, .inr ⟨HN0.out, rfl⟩⟩
          · have c1 : (cnt k == 0) = false := by simp [c0]
            have g1 : ((n : Int) != cnt k) = true := by have := cnt_one c0; simp; omega
            clear k0 hnk c0
            go_upto_region 7 with fail
            iterate 4 go_step
            refine wpl_store_row rfl rfl 27 _ _ rfl 0 27 11 w.heap.size 1 1 0 zer.toList HO.out (by decide) _ rfl rfl (.agg zer) zer.toList rfl rfl rfl (by kernel_rfl) zer_one ?_
            intro ob HO1
            have ho5 := hoE.setBlk (b := w.heap.size) (fun h => absurd h (Nat.lt_irrefl _)) ob
            have r0 := res_cells HO1 0 rfl
            have r1 := res_cells HO1 1 rfl
            have r2 := res_cells HO1 2 rfl
            have r3 := res_cells HO1 3 rfl
            have r4 := res_cells HO1 4 rfl
            have r5 := res_cells HO1 5 rfl
            have r6 := res_cells HO1 6 rfl
            have r7 := res_cells HO1 7 rfl
            have r8 := res_cells HO1 8 rfl
            have r9 := res_cells HO1 9 rfl
            have r10 := res_cells HO1 10 rfl
            clear HO1
            generalize setBlk w3 w.heap.size ob = w5 at *
            go_wp2_with fail
            exact bodyPost_ret (v := .tuple #[.agg (stp0.cells (.slice none 0 0)).toArray, .bool false]) (by simp [results, Tryd.results9, go_sem, stp0, Stp.cells, Str, r0, r1, r2, r3, r4, r5, r6, r7, r8, r9, r10]) rfl ⟨ho5, .inr ⟨HN0.out, rfl⟩⟩
      · have hnk : n = countOf k := Decidable.not_not.1 hnk
        rcases kcases hk k0 with rfl | rfl | rfl | rfl | rfl | hd
        · have hn7 : n = 7 := hnk
          subst hn7
          clear hnk
          have c0 : cnt 1 = 7 := rfl
          have HX := Lib.hid (show stepL s.data.toList = (numsL (lists ((ws.drop 1).take 3))).bind fun ns => stepN 1 ns (lists ws) from step_is HW.out Hs0.out HK.out HN.out (by omega) rfl)
          have hrs := Lib.hid (sub_row (m := 3) hrow3.out HN.out (by decide) (by decide))
          have hc1 : ¬ cap = 1 := by omega
          go_wp2_with fail
          refine (numbers_any hE3.out hrs.out (by simp [HN.out]) (by simp [HN.out]) (fun x hx => by have := Hsz.out x (List.mem_of_mem_drop (List.mem_of_mem_take hx)); omega)).mono ?_
          rintro e w4 ⟨ho4, ⟨v4, ns, hns, rfl, hrv, hvb⟩ | ⟨hns, v4, rfl⟩⟩
          · as_aux_lemma =>
              have hoF := hoE.trans' ho4
              have HR4 := Lib.hid (ho4.blk HR3.out id)
              have HS4 := Lib.hid (ho4.blk HsD.out id)
              have hrow4 := Lib.hid (hrow3.out.new ho4)
              have hE4 := Lib.hid (hE3.out.new ho4)
              have zsb4 := blk_lt HS4.out
              have hrb : w.heap.size ≠ sb := by omega
              have dk := cell_of_blk HS4.out 0
              simp only [List.getElem?_toArray, List.getElem?_cons_zero] at dk
              have hnl := nums_length hns
              obtain ⟨n0, n1, n2, rfl⟩ : ∃ n0 n1 n2, ns = [n0, n1, n2] := by
                rw [lists_len] at hnl
                have hnl2 : ns.length = 3 := by rw [hnl]; simp [HN.out]
                match ns, hnl2 with
                | [n0, n1, n2], _ => exact ⟨n0, n1, n2, rfl⟩
              obtain ⟨nb, no, ncap, hv4, hnc, hnm, hnb, hcn⟩ := hrv.addr (by simp)
              subst hv4
              have hnb3 := hvb nb rfl
              have hne : nb ≠ sb := by omega
              have x0 := hcn 0 (.int .i64 n0) rfl
              have x1 := hcn 1 (.int .i64 n1) rfl
              have x2 := hcn 2 (.int .i64 n2) rfl
              clear hcn hrv hvb hnl
              have HNS := Lib.hid hns
              clear hns hE3 hrow3 HR3 HsD hoE HO d1
              obtain ⟨s4, h4⟩ : ∃ x, ws[4]? = some x := ⟨_, List.getElem?_eq_getElem (by rw [HN.out]; decide)⟩
              obtain ⟨s5, h5⟩ : ∃ x, ws[5]? = some x := ⟨_, List.getElem?_eq_getElem (by rw [HN.out]; decide)⟩
              obtain ⟨s6, h6⟩ : ∃ x, ws[6]? = some x := ⟨_, List.getElem?_eq_getElem (by rw [HN.out]; decide)⟩
              go_wp2_with fail
              refine (call_any hE4.out HS4.out he10 hrow4.out HN.out (fun x hx => by have := Hsz.out x hx; omega) h4 h5 h6).mono ?_
              rintro e w6 ⟨ho6, ⟨a, c, ha, hc, hck, rfl, hsb6⟩ | ⟨hbad, rfl, cs, hsb6⟩⟩
              · as_aux_lemma =>
                  have HN0 := Lib.hid (show stepL s.data.toList = some ⟨1, n0, n1, n2, kindL callsT s4.data.toList, a, c, 0, 0, [], 0⟩ by
                    rw [HX.out, HNS.out]
                    show callW [n0, n1, n2] (lists ws) = _
                    unfold callW
                    rw [lists_at h4, lists_at h5, lists_at h6, ha, hc]
                    simp [hck])
                  have hoG := Only.newS hoF ho6 (fun c hc => by rw [hc]; omega)
                  have HR6 := Lib.hid (ho6.blk HR4.out (fun h => hrb h))
                  have u0 : w6.cell? ⟨nb, no + 0, none⟩ = some (.int .i64 n0) := by rw [World.cell?_of_block (w := w4) (ho6.block nb hnb (fun h => hne h))]; exact x0
                  have u1 : w6.cell? ⟨nb, no + 1, none⟩ = some (.int .i64 n1) := by rw [World.cell?_of_block (w := w4) (ho6.block nb hnb (fun h => hne h))]; exact x1
                  have u2 : w6.cell? ⟨nb, no + 2, none⟩ = some (.int .i64 n2) := by rw [World.cell?_of_block (w := w4) (ho6.block nb hnb (fun h => hne h))]; exact x2
                  rw [Nat.add_zero] at u0
                  have HSX := Lib.hid hsb6
                  clear hsb6 ha hc hck h4 h5 h6 x0 x1 x2 ho6 hoF
                  have y1 := cell_of_blk HSX.out 1
                  have g1 := free_of_blk HSX.out 1
                  have y2 := cell_of_blk HSX.out 2
                  have g2 := free_of_blk HSX.out 2
                  have y3 := cell_of_blk HSX.out 3
                  have g3 := free_of_blk HSX.out 3
                  simp only [List.getElem?_toArray, List.getElem?_cons_zero, List.getElem?_cons_succ] at y1 y2 y3
                  have zsX := blk_lt HSX.out
                  go_wp2_with fail
                  refine wp_region_segR [1,1,1,1,1,1,1,1,1,1,2,2,2,2,2,2,2] (by kernel_rfl) (by kernel_rfl) ?_
                  refine seg_reads 10 (by decide) (by decide) ?_
                  simp only [List.take_succ_cons, List.take_zero, List.drop_succ_cons, List.drop_zero]
                  iterate 10 (go_big_quiet_step (fail))
                  refine wpQuiet_nil ?_
                  refine seg_list' _ _ _ _ (by kernel_rfl) ?_
                  go_wp2_with fail
                  refine strict_intro ?_
                  have k1 := blk_setCell_same (i := 1) (v := .int .i64 n0) HSX.out
                  have k2 := blk_setCell_same (i := 2) (v := .int .i64 n1) k1
                  have k3 := blk_setCell_same (i := 3) (v := .int .i64 n2) k2
                  simp only [List.setIfInBounds_toArray, List.set_cons_succ, List.set_cons_zero] at k3
                  have HS9 := Lib.hid (show (((w6.setCell ⟨sb, 1, none⟩ (.int .i64 n0)).setCell ⟨sb, 2, none⟩ (.int .i64 n1)).setCell ⟨sb, 3, none⟩ (.int .i64 n2)).drew.heap[sb]? = _ from k3)
                  have hoH : Only (fun _ => False) w (((w6.setCell ⟨sb, 1, none⟩ (.int .i64 n0)).setCell ⟨sb, 2, none⟩ (.int .i64 n1)).setCell ⟨sb, 3, none⟩ (.int .i64 n2)).drew := (((hoG.setCell (p := ⟨sb, 1, none⟩) (fun h => absurd h (by dsimp only; omega)) (.int .i64 n0)).setCell (p := ⟨sb, 2, none⟩) (fun h => absurd h (by dsimp only; omega)) (.int .i64 n1)).setCell (p := ⟨sb, 3, none⟩) (fun h => absurd h (by dsimp only; omega)) (.int .i64 n2)).drew
                  have HO9 := Lib.hid (res_own (show (((w6.setCell ⟨sb, 1, none⟩ (.int .i64 n0)).setCell ⟨sb, 2, none⟩ (.int .i64 n1)).setCell ⟨sb, 3, none⟩ (.int .i64 n2)).drew.heap[w.heap.size]? = _ from (blk_setCell_other (Ne.symm hrb)).trans ((blk_setCell_other (Ne.symm hrb)).trans ((blk_setCell_other (Ne.symm hrb)).trans (HR6.out)))))
                  have hrow8 : Row1 (((w6.setCell ⟨sb, 1, none⟩ (.int .i64 n0)).setCell ⟨sb, 2, none⟩ (.int .i64 n1)).setCell ⟨sb, 3, none⟩ (.int .i64 n2)).drew (.slice none 0 0) (bools []) := Row1.nil _
                  clear y1 y2 y3 g1 g2 g3 k1 k2 k3
                  generalize (((w6.setCell ⟨sb, 1, none⟩ (.int .i64 n0)).setCell ⟨sb, 2, none⟩ (.int .i64 n1)).setCell ⟨sb, 3, none⟩ (.int .i64 n2)).drew = w9 at *
                  have e0 := cell_of_blk HS9.out 0
                  have e1 := cell_of_blk HS9.out 1
                  have e2 := cell_of_blk HS9.out 2
                  have e3 := cell_of_blk HS9.out 3
                  have e4 := cell_of_blk HS9.out 4
                  have e5 := cell_of_blk HS9.out 5
                  have e6 := cell_of_blk HS9.out 6
                  have e7 := cell_of_blk HS9.out 7
                  have e8 := cell_of_blk HS9.out 8
                  have e9 := cell_of_blk HS9.out 9
                  have e10 := cell_of_blk HS9.out 10
                  simp only [List.getElem?_toArray, List.getElem?_cons_zero, List.getElem?_cons_succ] at e0 e1 e2 e3 e4 e5 e6 e7 e8 e9 e10
                  go_upto_region 30 with fail
                  iterate 4 go_step
                  refine wpl_store_row rfl rfl 27 _ _ rfl 0 27 11 w.heap.size 1 1 0 zer.toList HO9.out (by decide) _ rfl rfl (.agg #[.int .i64 1, .int .i64 n0, .int .i64 n1, .int .i64 n2, .int .i64 (kindL callsT s4.data.toList : Int), Str a, Str c, .int .i64 0, .int .i64 0, .slice none 0 0, .int .i64 0]) [.int .i64 1, .int .i64 n0, .int .i64 n1, .int .i64 n2, .int .i64 (kindL callsT s4.data.toList : Int), Str a, Str c, .int .i64 0, .int .i64 0, .slice none 0 0, .int .i64 0] rfl rfl rfl (by kernel_rfl) (by simp [Value.oneCell', Str]) ?_
                  intro ob HO1
                  have ho5 := hoH.setBlk (b := w.heap.size) (fun h => absurd h (Nat.lt_irrefl _)) ob
                  have r0 := res_cells HO1 0 rfl
                  have r1 := res_cells HO1 1 rfl
                  have r2 := res_cells HO1 2 rfl
                  have r3 := res_cells HO1 3 rfl
                  have r4 := res_cells HO1 4 rfl
                  have r5 := res_cells HO1 5 rfl
                  have r6 := res_cells HO1 6 rfl
                  have r7 := res_cells HO1 7 rfl
                  have r8 := res_cells HO1 8 rfl
                  have r9 := res_cells HO1 9 rfl
                  have r10 := res_cells HO1 10 rfl
                  clear HO1 e0 e1 e2 e3 e4 e5 e6 e7 e8 e9 e10
                  have hrow9 := Row1.nil (setBlk w9 w.heap.size ob)
                  generalize setBlk w9 w.heap.size ob = w5 at *
                  go_wp2_with fail
                  exact bodyPost_ret (v := .tuple #[.agg #[.int .i64 1, .int .i64 n0, .int .i64 n1, .int .i64 n2, .int .i64 (kindL callsT s4.data.toList : Int), Str a, Str c, .int .i64 0, .int .i64 0, .slice none 0 0, .int .i64 0], .bool true]) (by simp [results, Tryd.results9, go_sem, r0, r1, r2, r3, r4, r5, r6, r7, r8, r9, r10]) rfl ⟨ho5, .inl ⟨⟨1, n0, n1, n2, kindL callsT s4.data.toList, a, c, 0, 0, [], 0⟩, _, HN0.out, rfl, hrow9, (fun c hc => by cases hc)⟩⟩
              · as_aux_lemma =>
                  have HN0 := Lib.hid (show stepL s.data.toList = none by
                    rw [HX.out, HNS.out]
                    show callW [n0, n1, n2] (lists ws) = _
                    unfold callW
                    rw [lists_at h4, lists_at h5, lists_at h6]
                    rcases hbad with h | h | h
                    · rw [h]
                    · rw [h]; cases unhexL s5.data.toList <;> rfl
                    · rw [h]; cases unhexL s5.data.toList <;> cases unhexL s6.data.toList <;> rfl)
                  have hoG := Only.newS hoF ho6 (fun c hc => by rw [hc]; omega)
                  have HO6 := Lib.hid (res_own (ho6.blk HR4.out (fun h => hrb h)))
                  clear hsb6 hbad h4 h5 h6 x0 x1 x2 ho6 hoF
                  go_upto_region 29 with fail
                  iterate 4 go_step
                  refine wpl_store_row rfl rfl 27 _ _ rfl 0 27 11 w.heap.size 1 1 0 zer.toList HO6.out (by decide) _ rfl rfl (.agg zer) zer.toList rfl rfl rfl (by kernel_rfl) zer_one ?_
                  intro ob HO1
                  have ho5 := hoG.setBlk (b := w.heap.size) (fun h => absurd h (Nat.lt_irrefl _)) ob
                  have r0 := res_cells HO1 0 rfl
                  have r1 := res_cells HO1 1 rfl
                  have r2 := res_cells HO1 2 rfl
                  have r3 := res_cells HO1 3 rfl
                  have r4 := res_cells HO1 4 rfl
                  have r5 := res_cells HO1 5 rfl
                  have r6 := res_cells HO1 6 rfl
                  have r7 := res_cells HO1 7 rfl
                  have r8 := res_cells HO1 8 rfl
                  have r9 := res_cells HO1 9 rfl
                  have r10 := res_cells HO1 10 rfl
                  clear HO1
                  generalize setBlk w6 w.heap.size ob = w5 at *
                  go_wp2_with fail
                  exact bodyPost_ret (v := .tuple #[.agg (stp0.cells (.slice none 0 0)).toArray, .bool false]) (by simp [results, Tryd.results9, go_sem, stp0, Stp.cells, Str, r0, r1, r2, r3, r4, r5, r6, r7, r8, r9, r10]) rfl ⟨ho5, .inr ⟨HN0.out, rfl⟩⟩
          · as_aux_lemma =>
              have hoF := hoE.trans' ho4
              have HN0 := Lib.hid (show stepL s.data.toList = none by rw [HX.out]; exact congrArg (fun z : Option (List Int) => z.bind _) hns)
              have HO4 := Lib.hid (res_own (ho4.blk HR3.out id))
              have HS4 := Lib.hid (ho4.blk HsD.out id)
              have dk := cell_of_blk HS4.out 0
              simp only [List.getElem?_toArray, List.getElem?_cons_zero] at dk
              clear hns
              go_upto_region 29 with fail
              iterate 4 go_step
              refine wpl_store_row rfl rfl 27 _ _ rfl 0 27 11 w.heap.size 1 1 0 zer.toList HO4.out (by decide) _ rfl rfl (.agg zer) zer.toList rfl rfl rfl (by kernel_rfl) zer_one ?_
              intro ob HO1
              have ho5 := hoF.setBlk (b := w.heap.size) (fun h => absurd h (Nat.lt_irrefl _)) ob
              have r0 := res_cells HO1 0 rfl
              have r1 := res_cells HO1 1 rfl
              have r2 := res_cells HO1 2 rfl
              have r3 := res_cells HO1 3 rfl
              have r4 := res_cells HO1 4 rfl
              have r5 := res_cells HO1 5 rfl
              have r6 := res_cells HO1 6 rfl
              have r7 := res_cells HO1 7 rfl
              have r8 := res_cells HO1 8 rfl
              have r9 := res_cells HO1 9 rfl
              have r10 := res_cells HO1 10 rfl
              clear HO1
              generalize setBlk w4 w.heap.size ob = w5 at *
              go_wp2_with fail
              exact bodyPost_ret (v := .tuple #[.agg (stp0.cells (.slice none 0 0)).toArray, .bool false]) (by simp [results, Tryd.results9, go_sem, stp0, Stp.cells, Str, r0, r1, r2, r3, r4, r5, r6, r7, r8, r9, r10]) rfl ⟨ho5, .inr ⟨HN0.out, rfl⟩⟩
        · have hn7 : n = 5 := hnk
          subst hn7
          clear hnk
          have c0 : cnt 9 = 5 := rfl
          have HX := Lib.hid (show stepL s.data.toList = (numsL (lists ((ws.drop 1).take 3))).bind fun ns => stepN 9 ns (lists ws) from step_is HW.out Hs0.out HK.out HN.out (by omega) rfl)
          have hrs := Lib.hid (sub_row (m := 3) hrow3.out HN.out (by decide) (by decide))
          have hc1 : ¬ cap = 1 := by omega
          go_wp2_with fail
          refine (numbers_any hE3.out hrs.out (by simp [HN.out]) (by simp [HN.out]) (fun x hx => by have := Hsz.out x (List.mem_of_mem_drop (List.mem_of_mem_take hx)); omega)).mono ?_
          rintro e w4 ⟨ho4, ⟨v4, ns, hns, rfl, hrv, hvb⟩ | ⟨hns, v4, rfl⟩⟩
          · as_aux_lemma =>
              have hoF := hoE.trans' ho4
              have HR4 := Lib.hid (ho4.blk HR3.out id)
              have HS4 := Lib.hid (ho4.blk HsD.out id)
              have hrow4 := Lib.hid (hrow3.out.new ho4)
              have hE4 := Lib.hid (hE3.out.new ho4)
              have zsb4 := blk_lt HS4.out
              have hrb : w.heap.size ≠ sb := by omega
              have dk := cell_of_blk HS4.out 0
              simp only [List.getElem?_toArray, List.getElem?_cons_zero] at dk
              have hnl := nums_length hns
              obtain ⟨n0, n1, n2, rfl⟩ : ∃ n0 n1 n2, ns = [n0, n1, n2] := by
                rw [lists_len] at hnl
                have hnl2 : ns.length = 3 := by rw [hnl]; simp [HN.out]
                match ns, hnl2 with
                | [n0, n1, n2], _ => exact ⟨n0, n1, n2, rfl⟩
              obtain ⟨nb, no, ncap, hv4, hnc, hnm, hnb, hcn⟩ := hrv.addr (by simp)
              subst hv4
              have hnb3 := hvb nb rfl
              have hne : nb ≠ sb := by omega
              have x0 := hcn 0 (.int .i64 n0) rfl
              have x1 := hcn 1 (.int .i64 n1) rfl
              have x2 := hcn 2 (.int .i64 n2) rfl
              clear hcn hrv hvb hnl
              have HNS := Lib.hid hns
              clear hns hE3 hrow3 HR3 HsD hoE HO d1
              obtain ⟨s4, h4⟩ : ∃ x, ws[4]? = some x := ⟨_, List.getElem?_eq_getElem (by rw [HN.out]; decide)⟩
              have q4 : w4.cell? ⟨b, o + 4, none⟩ = some (.string s4) := by
                obtain ⟨_, b', o', ha, hb', hq⟩ := hrow4.out.at (i := 4) (x := .string s4) (by rw [List.getElem?_map, h4]; rfl)
                injection ha with ha; injection ha with h1 h2 _
                subst h1; subst h2
                exact hq
              go_wp2_with fail
              refine (unbits_any s4 (by have := Hsz.out s4 (List.mem_of_getElem? h4); omega)).mono ?_
              rintro e w6 ⟨ho6, ⟨v5, bs, hbs, rfl, hr5, hu5⟩ | ⟨hbs, v5, rfl⟩⟩
              · as_aux_lemma =>
                  have HN0 := Lib.hid (show stepL s.data.toList = some ⟨9, n0, 0, 0, 0, [], [], 0, n1, bs, n2⟩ by
                    rw [HX.out, HNS.out]
                    show (unbitsL ((lists ws).getD 4 [])).map _ = _
                    rw [lists_at h4, hbs]; rfl)
                  have hoG := hoF.trans' ho6
                  have HR6 := Lib.hid (ho6.blk HR4.out id)
                  have u0 : w6.cell? ⟨nb, no + 0, none⟩ = some (.int .i64 n0) := by rw [World.cell?_of_block (w := w4) (ho6.block nb hnb id)]; exact x0
                  have u1 : w6.cell? ⟨nb, no + 1, none⟩ = some (.int .i64 n1) := by rw [World.cell?_of_block (w := w4) (ho6.block nb hnb id)]; exact x1
                  have u2 : w6.cell? ⟨nb, no + 2, none⟩ = some (.int .i64 n2) := by rw [World.cell?_of_block (w := w4) (ho6.block nb hnb id)]; exact x2
                  rw [Nat.add_zero] at u0
                  have HSX := Lib.hid (ho6.blk HS4.out id)
                  obtain ⟨a5, n5, c5, rfl⟩ : ∃ a5 n5 c5, v5 = .slice a5 n5 c5 := by
                    obtain ⟨a, c, h, _⟩ := hr5
                    exact ⟨a, _, c, h⟩
                  have Hr5 := Lib.hid hr5
                  have dk6 := cell_of_blk HSX.out 0
                  simp only [List.getElem?_toArray, List.getElem?_cons_zero] at dk6
                  have HLB := Lib.hid hu5
                  clear hbs h4 x0 x1 x2 ho6 hoF hr5 hu5 q4 dk
                  have y1 := cell_of_blk HSX.out 1
                  have g1 := free_of_blk HSX.out 1
                  have y8 := cell_of_blk HSX.out 8
                  have g8 := free_of_blk HSX.out 8
                  have y10 := cell_of_blk HSX.out 10
                  have g10 := free_of_blk HSX.out 10
                  have y9 := cell_of_blk HSX.out 9
                  have g9 := free_of_blk HSX.out 9
                  simp only [List.getElem?_toArray, List.getElem?_cons_zero, List.getElem?_cons_succ] at y1 y8 y10 y9
                  have zsX := blk_lt HSX.out
                  go_wp2_with fail
                  refine wp_region_segR [1,1,1,1,1,1,1,1,1,0,1,2,2,2,2,2,2,2] (by kernel_rfl) (by kernel_rfl) ?_
                  refine seg_reads 9 (by decide) (by decide) ?_
                  simp only [List.take_succ_cons, List.take_zero, List.drop_succ_cons, List.drop_zero]
                  iterate 9 (go_big_quiet_step (fail))
                  refine wpQuiet_nil ?_
                  refine seg_free rfl ?_
                  go_big_quiet_step (fail)
                  refine wpQuiet_nil ?_
                  refine seg_reads 1 (by decide) (by decide) ?_
                  simp only [List.take_succ_cons, List.take_zero, List.drop_succ_cons, List.drop_zero]
                  iterate 1 (go_big_quiet_step (fail))
                  refine wpQuiet_nil ?_
                  refine seg_list' _ _ _ _ (by kernel_rfl) ?_
                  go_wp2_with fail
                  refine strict_intro ?_
                  have k1 := blk_setCell_same (i := 1) (v := .int .i64 n0) HSX.out
                  have k2 := blk_setCell_same (i := 8) (v := .int .i64 n1) k1
                  have k3 := blk_setCell_same (i := 10) (v := .int .i64 n2) k2
                  have k4 := blk_setCell_same (i := 9) (v := .slice a5 n5 c5) k3
                  simp only [List.setIfInBounds_toArray, List.set_cons_succ, List.set_cons_zero] at k4
                  have HS9 := Lib.hid (show ((((w6.setCell ⟨sb, 1, none⟩ (.int .i64 n0)).setCell ⟨sb, 8, none⟩ (.int .i64 n1)).setCell ⟨sb, 10, none⟩ (.int .i64 n2)).setCell ⟨sb, 9, none⟩ (.slice a5 n5 c5)).drew.heap[sb]? = _ from k4)
                  have hoH : Only (fun _ => False) w ((((w6.setCell ⟨sb, 1, none⟩ (.int .i64 n0)).setCell ⟨sb, 8, none⟩ (.int .i64 n1)).setCell ⟨sb, 10, none⟩ (.int .i64 n2)).setCell ⟨sb, 9, none⟩ (.slice a5 n5 c5)).drew := ((((hoG.setCell (p := ⟨sb, 1, none⟩) (fun h => absurd h (by dsimp only; omega)) (.int .i64 n0)).setCell (p := ⟨sb, 8, none⟩) (fun h => absurd h (by dsimp only; omega)) (.int .i64 n1)).setCell (p := ⟨sb, 10, none⟩) (fun h => absurd h (by dsimp only; omega)) (.int .i64 n2)).setCell (p := ⟨sb, 9, none⟩) (fun h => absurd h (by dsimp only; omega)) (.slice a5 n5 c5)).drew
                  have HO9 := Lib.hid (res_own (show ((((w6.setCell ⟨sb, 1, none⟩ (.int .i64 n0)).setCell ⟨sb, 8, none⟩ (.int .i64 n1)).setCell ⟨sb, 10, none⟩ (.int .i64 n2)).setCell ⟨sb, 9, none⟩ (.slice a5 n5 c5)).drew.heap[w.heap.size]? = _ from (blk_setCell_other (Ne.symm hrb)).trans ((blk_setCell_other (Ne.symm hrb)).trans ((blk_setCell_other (Ne.symm hrb)).trans ((blk_setCell_other (Ne.symm hrb)).trans (HR6.out))))))
                  have hrow8 : Row1 ((((w6.setCell ⟨sb, 1, none⟩ (.int .i64 n0)).setCell ⟨sb, 8, none⟩ (.int .i64 n1)).setCell ⟨sb, 10, none⟩ (.int .i64 n2)).setCell ⟨sb, 9, none⟩ (.slice a5 n5 c5)).drew (.slice a5 n5 c5) (bools bs) := Hr5.out.only (S := fun c => c = sb) (((((Only.refl (fun c => c = sb) w6).setCell (p := ⟨sb, 1, none⟩) (fun _ => rfl) _).setCell (p := ⟨sb, 8, none⟩) (fun _ => rfl) _).setCell (p := ⟨sb, 10, none⟩) (fun _ => rfl) _).setCell (p := ⟨sb, 9, none⟩) (fun _ => rfl) _).drew (fun b' o' n' c' hh hb' => by have := HLB.out b' (by rw [hh]; rfl); omega)
                  clear y1 y8 y10 y9 g1 g8 g10 g9 k1 k2 k3 k4
                  generalize ((((w6.setCell ⟨sb, 1, none⟩ (.int .i64 n0)).setCell ⟨sb, 8, none⟩ (.int .i64 n1)).setCell ⟨sb, 10, none⟩ (.int .i64 n2)).setCell ⟨sb, 9, none⟩ (.slice a5 n5 c5)).drew = w9 at *
                  have e0 := cell_of_blk HS9.out 0
                  have e1 := cell_of_blk HS9.out 1
                  have e2 := cell_of_blk HS9.out 2
                  have e3 := cell_of_blk HS9.out 3
                  have e4 := cell_of_blk HS9.out 4
                  have e5 := cell_of_blk HS9.out 5
                  have e6 := cell_of_blk HS9.out 6
                  have e7 := cell_of_blk HS9.out 7
                  have e8 := cell_of_blk HS9.out 8
                  have e9 := cell_of_blk HS9.out 9
                  have e10 := cell_of_blk HS9.out 10
                  simp only [List.getElem?_toArray, List.getElem?_cons_zero, List.getElem?_cons_succ] at e0 e1 e2 e3 e4 e5 e6 e7 e8 e9 e10
                  go_upto_region 30 with fail
                  iterate 4 go_step
                  refine wpl_store_row rfl rfl 27 _ _ rfl 0 27 11 w.heap.size 1 1 0 zer.toList HO9.out (by decide) _ rfl rfl (.agg #[.int .i64 9, .int .i64 n0, .int .i64 0, .int .i64 0, .int .i64 0, .string ⟨#[]⟩, .string ⟨#[]⟩, .int .i64 0, .int .i64 n1, .slice a5 n5 c5, .int .i64 n2]) [.int .i64 9, .int .i64 n0, .int .i64 0, .int .i64 0, .int .i64 0, .string ⟨#[]⟩, .string ⟨#[]⟩, .int .i64 0, .int .i64 n1, .slice a5 n5 c5, .int .i64 n2] rfl rfl rfl (by kernel_rfl) (by simp [Value.oneCell', Str]) ?_
                  intro ob HO1
                  have ho5 := hoH.setBlk (b := w.heap.size) (fun h => absurd h (Nat.lt_irrefl _)) ob
                  have r0 := res_cells HO1 0 rfl
                  have r1 := res_cells HO1 1 rfl
                  have r2 := res_cells HO1 2 rfl
                  have r3 := res_cells HO1 3 rfl
                  have r4 := res_cells HO1 4 rfl
                  have r5 := res_cells HO1 5 rfl
                  have r6 := res_cells HO1 6 rfl
                  have r7 := res_cells HO1 7 rfl
                  have r8 := res_cells HO1 8 rfl
                  have r9 := res_cells HO1 9 rfl
                  have r10 := res_cells HO1 10 rfl
                  clear HO1 e0 e1 e2 e3 e4 e5 e6 e7 e8 e9 e10
                  have hrow9 := hrow8.only (S := fun c => c = w.heap.size) ((Only.refl (fun c => c = w.heap.size) w9).setBlk (fun _ => rfl) ob) (fun b' o' n' c' hh hb' => by have := HLB.out b' (by rw [hh]; rfl); omega)
                  generalize setBlk w9 w.heap.size ob = w5 at *
                  go_wp2_with fail
                  exact bodyPost_ret (v := .tuple #[.agg #[.int .i64 9, .int .i64 n0, .int .i64 0, .int .i64 0, .int .i64 0, .string ⟨#[]⟩, .string ⟨#[]⟩, .int .i64 0, .int .i64 n1, .slice a5 n5 c5, .int .i64 n2], .bool true]) (by simp [results, Tryd.results9, go_sem, r0, r1, r2, r3, r4, r5, r6, r7, r8, r9, r10]) rfl ⟨ho5, .inl ⟨⟨9, n0, 0, 0, 0, [], [], 0, n1, bs, n2⟩, _, HN0.out, rfl, hrow9, (fun c hc => by have := HLB.out c hc; omega)⟩⟩
              · as_aux_lemma =>
                  have HN0 := Lib.hid (show stepL s.data.toList = none by
                    rw [HX.out, HNS.out]
                    show (unbitsL ((lists ws).getD 4 [])).map _ = _
                    rw [lists_at h4, hbs]; rfl)
                  have hoG := hoF.trans' ho6
                  have HO6 := Lib.hid (res_own (ho6.blk HR4.out id))
                  clear hbs h4 x0 x1 x2 ho6 hoF q4
                  go_upto_region 29 with fail
                  iterate 4 go_step
                  refine wpl_store_row rfl rfl 27 _ _ rfl 0 27 11 w.heap.size 1 1 0 zer.toList HO6.out (by decide) _ rfl rfl (.agg zer) zer.toList rfl rfl rfl (by kernel_rfl) zer_one ?_
                  intro ob HO1
                  have ho5 := hoG.setBlk (b := w.heap.size) (fun h => absurd h (Nat.lt_irrefl _)) ob
                  have r0 := res_cells HO1 0 rfl
                  have r1 := res_cells HO1 1 rfl
                  have r2 := res_cells HO1 2 rfl
                  have r3 := res_cells HO1 3 rfl
                  have r4 := res_cells HO1 4 rfl
                  have r5 := res_cells HO1 5 rfl
                  have r6 := res_cells HO1 6 rfl
                  have r7 := res_cells HO1 7 rfl
                  have r8 := res_cells HO1 8 rfl
                  have r9 := res_cells HO1 9 rfl
                  have r10 := res_cells HO1 10 rfl
                  clear HO1
                  generalize setBlk w6 w.heap.size ob = w5 at *
                  go_wp2_with fail
                  exact bodyPost_ret (v := .tuple #[.agg (stp0.cells (.slice none 0 0)).toArray, .bool false]) (by simp [results, Tryd.results9, go_sem, stp0, Stp.cells, Str, r0, r1, r2, r3, r4, r5, r6, r7, r8, r9, r10]) rfl ⟨ho5, .inr ⟨HN0.out, rfl⟩⟩
          · as_aux_lemma =>
              have hoF := hoE.trans' ho4
              have HN0 := Lib.hid (show stepL s.data.toList = none by rw [HX.out]; exact congrArg (fun z : Option (List Int) => z.bind _) hns)
              have HO4 := Lib.hid (res_own (ho4.blk HR3.out id))
              have HS4 := Lib.hid (ho4.blk HsD.out id)
              have dk := cell_of_blk HS4.out 0
              simp only [List.getElem?_toArray, List.getElem?_cons_zero] at dk
              clear hns
              have hrow4 := Lib.hid (hrow3.out.new ho4)
              obtain ⟨s4, h4⟩ : ∃ x, ws[4]? = some x := ⟨_, List.getElem?_eq_getElem (by rw [HN.out]; decide)⟩
              have q4 : w4.cell? ⟨b, o + 4, none⟩ = some (.string s4) := by
                obtain ⟨_, b', o', ha, hb', hq⟩ := hrow4.out.at (i := 4) (x := .string s4) (by rw [List.getElem?_map, h4]; rfl)
                injection ha with ha; injection ha with h1 h2 _
                subst h1; subst h2
                exact hq
              go_wp2_with fail
              refine (unbits_any s4 (by have := Hsz.out s4 (List.mem_of_getElem? h4); omega)).mono ?_
              rintro e w6 ⟨ho6, ⟨v5, bs, hbs, rfl, hr5, hu5⟩ | ⟨hbs, v5, rfl⟩⟩
              · have hoG := hoF.trans' ho6
                have HO6 := Lib.hid (res_own ((ho4.trans' ho6).blk HR3.out id))
                clear hbs h4 ho6 hoF q4 hr5 hu5
                go_upto_region 29 with fail
                iterate 4 go_step
                refine wpl_store_row rfl rfl 27 _ _ rfl 0 27 11 w.heap.size 1 1 0 zer.toList HO6.out (by decide) _ rfl rfl (.agg zer) zer.toList rfl rfl rfl (by kernel_rfl) zer_one ?_
                intro ob HO1
                have ho5 := hoG.setBlk (b := w.heap.size) (fun h => absurd h (Nat.lt_irrefl _)) ob
                have r0 := res_cells HO1 0 rfl
                have r1 := res_cells HO1 1 rfl
                have r2 := res_cells HO1 2 rfl
                have r3 := res_cells HO1 3 rfl
                have r4 := res_cells HO1 4 rfl
                have r5 := res_cells HO1 5 rfl
                have r6 := res_cells HO1 6 rfl
                have r7 := res_cells HO1 7 rfl
                have r8 := res_cells HO1 8 rfl
                have r9 := res_cells HO1 9 rfl
                have r10 := res_cells HO1 10 rfl
                clear HO1
                generalize setBlk w6 w.heap.size ob = w5 at *
                go_wp2_with fail
                exact bodyPost_ret (v := .tuple #[.agg (stp0.cells (.slice none 0 0)).toArray, .bool false]) (by simp [results, Tryd.results9, go_sem, stp0, Stp.cells, Str, r0, r1, r2, r3, r4, r5, r6, r7, r8, r9, r10]) rfl ⟨ho5, .inr ⟨HN0.out, rfl⟩⟩
              · have hoG := hoF.trans' ho6
                have HO6 := Lib.hid (res_own ((ho4.trans' ho6).blk HR3.out id))
                clear hbs h4 ho6 hoF q4
                go_upto_region 29 with fail
                iterate 4 go_step
                refine wpl_store_row rfl rfl 27 _ _ rfl 0 27 11 w.heap.size 1 1 0 zer.toList HO6.out (by decide) _ rfl rfl (.agg zer) zer.toList rfl rfl rfl (by kernel_rfl) zer_one ?_
                intro ob HO1
                have ho5 := hoG.setBlk (b := w.heap.size) (fun h => absurd h (Nat.lt_irrefl _)) ob
                have r0 := res_cells HO1 0 rfl
                have r1 := res_cells HO1 1 rfl
                have r2 := res_cells HO1 2 rfl
                have r3 := res_cells HO1 3 rfl
                have r4 := res_cells HO1 4 rfl
                have r5 := res_cells HO1 5 rfl
                have r6 := res_cells HO1 6 rfl
                have r7 := res_cells HO1 7 rfl
                have r8 := res_cells HO1 8 rfl
                have r9 := res_cells HO1 9 rfl
                have r10 := res_cells HO1 10 rfl
                clear HO1
                generalize setBlk w6 w.heap.size ob = w5 at *
                go_wp2_with fail
                exact bodyPost_ret (v := .tuple #[.agg (stp0.cells (.slice none 0 0)).toArray, .bool false]) (by simp [results, Tryd.results9, go_sem, stp0, Stp.cells, Str, r0, r1, r2, r3, r4, r5, r6, r7, r8, r9, r10]) rfl ⟨ho5, .inr ⟨HN0.out, rfl⟩⟩
        · have hn7 : n = 3 := hnk
          subst hn7
          clear hnk
          have c0 : cnt 7 = 3 := rfl
          have HX := Lib.hid (show stepL s.data.toList = (numsL (lists ((ws.drop 1).take 2))).bind fun ns => stepN 7 ns (lists ws) from step_is HW.out Hs0.out HK.out HN.out (by omega) rfl)
          have hrs := Lib.hid (sub_row (m := 2) hrow3.out HN.out (by decide) (by decide))
          have hc1 : ¬ cap = 1 := by omega
          go_wp2_with fail
          refine (numbers_any hE3.out hrs.out (by simp [HN.out]) (by simp [HN.out]) (fun x hx => by have := Hsz.out x (List.mem_of_mem_drop (List.mem_of_mem_take hx)); omega)).mono ?_
          rintro e w4 ⟨ho4, ⟨v4, ns, hns, rfl, hrv, hvb⟩ | ⟨hns, v4, rfl⟩⟩
          · as_aux_lemma =>
              have hoF := hoE.trans' ho4
              have HR4 := Lib.hid (ho4.blk HR3.out id)
              have HS4 := Lib.hid (ho4.blk HsD.out id)
              have hrow4 := Lib.hid (hrow3.out.new ho4)
              have hE4 := Lib.hid (hE3.out.new ho4)
              have zsb4 := blk_lt HS4.out
              have hrb : w.heap.size ≠ sb := by omega
              have dk := cell_of_blk HS4.out 0
              simp only [List.getElem?_toArray, List.getElem?_cons_zero] at dk
              have hnl := nums_length hns
              obtain ⟨n0, n1, rfl⟩ : ∃ n0 n1, ns = [n0, n1] := by
                rw [lists_len] at hnl
                have hnl2 : ns.length = 2 := by rw [hnl]; simp [HN.out]
                match ns, hnl2 with
                | [n0, n1], _ => exact ⟨n0, n1, rfl⟩
              obtain ⟨nb, no, ncap, hv4, hnc, hnm, hnb, hcn⟩ := hrv.addr (by simp)
              subst hv4
              have hnb3 := hvb nb rfl
              have hne : nb ≠ sb := by omega
              have x0 := hcn 0 (.int .i64 n0) rfl
              have x1 := hcn 1 (.int .i64 n1) rfl
              clear hcn hrv hvb hnl
              have HNS := Lib.hid hns
              clear hns hE3 hrow3 HR3 HsD hoE HO d1
              rw [Nat.add_zero] at x0
              have HSX := HS4
              have HN0 := Lib.hid (show stepL s.data.toList = some ⟨7, n0, 0, 0, 0, [], [], 0, n1, [], 0⟩ by rw [HX.out, HNS.out]; rfl)
              have y1 := cell_of_blk HSX.out 1
              have g1 := free_of_blk HSX.out 1
              have y8 := cell_of_blk HSX.out 8
              have g8 := free_of_blk HSX.out 8
              simp only [List.getElem?_toArray, List.getElem?_cons_zero, List.getElem?_cons_succ] at y1 y8
              have zsX := blk_lt HSX.out
              go_wp2_with fail
              refine wp_region_segR [1,1,1,1,1,1,1,2,2,2] (by kernel_rfl) (by kernel_rfl) ?_
              refine seg_reads 7 (by decide) (by decide) ?_
              simp only [List.take_succ_cons, List.take_zero, List.drop_succ_cons, List.drop_zero]
              iterate 7 (go_big_quiet_step (fail))
              refine wpQuiet_nil ?_
              refine seg_list' _ _ _ _ (by kernel_rfl) ?_
              go_wp2_with fail
              refine strict_intro ?_
              have k1 := blk_setCell_same (i := 1) (v := .int .i64 n0) HSX.out
              have k2 := blk_setCell_same (i := 8) (v := .int .i64 n1) k1
              simp only [List.setIfInBounds_toArray, List.set_cons_succ, List.set_cons_zero] at k2
              have HS9 := Lib.hid (show ((w4.setCell ⟨sb, 1, none⟩ (.int .i64 n0)).setCell ⟨sb, 8, none⟩ (.int .i64 n1)).drew.heap[sb]? = _ from k2)
              have hoH : Only (fun _ => False) w ((w4.setCell ⟨sb, 1, none⟩ (.int .i64 n0)).setCell ⟨sb, 8, none⟩ (.int .i64 n1)).drew := ((hoF.setCell (p := ⟨sb, 1, none⟩) (fun h => absurd h (by dsimp only; omega)) (.int .i64 n0)).setCell (p := ⟨sb, 8, none⟩) (fun h => absurd h (by dsimp only; omega)) (.int .i64 n1)).drew
              have HO9 := Lib.hid (res_own (show ((w4.setCell ⟨sb, 1, none⟩ (.int .i64 n0)).setCell ⟨sb, 8, none⟩ (.int .i64 n1)).drew.heap[w.heap.size]? = _ from (blk_setCell_other (Ne.symm hrb)).trans ((blk_setCell_other (Ne.symm hrb)).trans (HR4.out))))
              have hrow8 : Row1 ((w4.setCell ⟨sb, 1, none⟩ (.int .i64 n0)).setCell ⟨sb, 8, none⟩ (.int .i64 n1)).drew (.slice none 0 0) (bools []) := Row1.nil _
              clear y1 y8 g1 g8 k1 k2
              generalize ((w4.setCell ⟨sb, 1, none⟩ (.int .i64 n0)).setCell ⟨sb, 8, none⟩ (.int .i64 n1)).drew = w9 at *
              have e0 := cell_of_blk HS9.out 0
              have e1 := cell_of_blk HS9.out 1
              have e2 := cell_of_blk HS9.out 2
              have e3 := cell_of_blk HS9.out 3
              have e4 := cell_of_blk HS9.out 4
              have e5 := cell_of_blk HS9.out 5
              have e6 := cell_of_blk HS9.out 6
              have e7 := cell_of_blk HS9.out 7
              have e8 := cell_of_blk HS9.out 8
              have e9 := cell_of_blk HS9.out 9
              have e10 := cell_of_blk HS9.out 10
              simp only [List.getElem?_toArray, List.getElem?_cons_zero, List.getElem?_cons_succ] at e0 e1 e2 e3 e4 e5 e6 e7 e8 e9 e10
              go_upto_region 30 with fail
              iterate 4 go_step
              refine wpl_store_row rfl rfl 27 _ _ rfl 0 27 11 w.heap.size 1 1 0 zer.toList HO9.out (by decide) _ rfl rfl (.agg #[.int .i64 7, .int .i64 n0, .int .i64 0, .int .i64 0, .int .i64 0, .string ⟨#[]⟩, .string ⟨#[]⟩, .int .i64 0, .int .i64 n1, .slice none 0 0, .int .i64 0]) [.int .i64 7, .int .i64 n0, .int .i64 0, .int .i64 0, .int .i64 0, .string ⟨#[]⟩, .string ⟨#[]⟩, .int .i64 0, .int .i64 n1, .slice none 0 0, .int .i64 0] rfl rfl rfl (by kernel_rfl) (by simp [Value.oneCell', Str]) ?_
              intro ob HO1
              have ho5 := hoH.setBlk (b := w.heap.size) (fun h => absurd h (Nat.lt_irrefl _)) ob
              have r0 := res_cells HO1 0 rfl
              have r1 := res_cells HO1 1 rfl
              have r2 := res_cells HO1 2 rfl
              have r3 := res_cells HO1 3 rfl
              have r4 := res_cells HO1 4 rfl
              have r5 := res_cells HO1 5 rfl
              have r6 := res_cells HO1 6 rfl
              have r7 := res_cells HO1 7 rfl
              have r8 := res_cells HO1 8 rfl
              have r9 := res_cells HO1 9 rfl
              have r10 := res_cells HO1 10 rfl
              clear HO1 e0 e1 e2 e3 e4 e5 e6 e7 e8 e9 e10
              have hrow9 := Row1.nil (setBlk w9 w.heap.size ob)
              generalize setBlk w9 w.heap.size ob = w5 at *
              go_wp2_with fail
              exact bodyPost_ret (v := .tuple #[.agg #[.int .i64 7, .int .i64 n0, .int .i64 0, .int .i64 0, .int .i64 0, .string ⟨#[]⟩, .string ⟨#[]⟩, .int .i64 0, .int .i64 n1, .slice none 0 0, .int .i64 0], .bool true]) (by simp [results, Tryd.results9, go_sem, r0, r1, r2, r3, r4, r5, r6, r7, r8, r9, r10]) rfl ⟨ho5, .inl ⟨⟨7, n0, 0, 0, 0, [], [], 0, n1, [], 0⟩, _, HN0.out, rfl, hrow9, (fun c hc => by cases hc)⟩⟩
          · as_aux_lemma =>
              have hoF := hoE.trans' ho4
              have HN0 := Lib.hid (show stepL s.data.toList = none by rw [HX.out]; exact congrArg (fun z : Option (List Int) => z.bind _) hns)
              have HO4 := Lib.hid (res_own (ho4.blk HR3.out id))
              have HS4 := Lib.hid (ho4.blk HsD.out id)
              have dk := cell_of_blk HS4.out 0
              simp only [List.getElem?_toArray, List.getElem?_cons_zero] at dk
              clear hns
              go_upto_region 29 with fail
              iterate 4 go_step
              refine wpl_store_row rfl rfl 27 _ _ rfl 0 27 11 w.heap.size 1 1 0 zer.toList HO4.out (by decide) _ rfl rfl (.agg zer) zer.toList rfl rfl rfl (by kernel_rfl) zer_one ?_
              intro ob HO1
              have ho5 := hoF.setBlk (b := w.heap.size) (fun h => absurd h (Nat.lt_irrefl _)) ob
              have r0 := res_cells HO1 0 rfl
              have r1 := res_cells HO1 1 rfl
              have r2 := res_cells HO1 2 rfl
              have r3 := res_cells HO1 3 rfl
              have r4 := res_cells HO1 4 rfl
              have r5 := res_cells HO1 5 rfl
              have r6 := res_cells HO1 6 rfl
              have r7 := res_cells HO1 7 rfl
              have r8 := res_cells HO1 8 rfl
              have r9 := res_cells HO1 9 rfl
              have r10 := res_cells HO1 10 rfl
              clear HO1
              generalize setBlk w4 w.heap.size ob = w5 at *
              go_wp2_with fail
              exact bodyPost_ret (v := .tuple #[.agg (stp0.cells (.slice none 0 0)).toArray, .bool false]) (by simp [results, Tryd.results9, go_sem, stp0, Stp.cells, Str, r0, r1, r2, r3, r4, r5, r6, r7, r8, r9, r10]) rfl ⟨ho5, .inr ⟨HN0.out, rfl⟩⟩
        · have hn7 : n = 2 := hnk
          subst hn7
          clear hnk
          have c0 : cnt 6 = 0 := rfl
          have HX := Lib.hid (show stepL s.data.toList = (numsL (lists ((ws.drop 1).take 1))).bind fun ns => stepN 6 ns (lists ws) from step_is HW.out Hs0.out HK.out HN.out (by omega) rfl)
          have hrs := Lib.hid (sub_row (m := 1) hrow3.out HN.out (by decide) (by decide))
          have hc1 : ¬ cap = 1 := by omega
          go_wp2_with fail
          refine (numbers_any hE3.out hrs.out (by simp [HN.out]) (by simp [HN.out]) (fun x hx => by have := Hsz.out x (List.mem_of_mem_drop (List.mem_of_mem_take hx)); omega)).mono ?_
          rintro e w4 ⟨ho4, ⟨v4, ns, hns, rfl, hrv, hvb⟩ | ⟨hns, v4, rfl⟩⟩
          · as_aux_lemma =>
              have hoF := hoE.trans' ho4
              have HR4 := Lib.hid (ho4.blk HR3.out id)
              have HS4 := Lib.hid (ho4.blk HsD.out id)
              have hrow4 := Lib.hid (hrow3.out.new ho4)
              have hE4 := Lib.hid (hE3.out.new ho4)
              have zsb4 := blk_lt HS4.out
              have hrb : w.heap.size ≠ sb := by omega
              have dk := cell_of_blk HS4.out 0
              simp only [List.getElem?_toArray, List.getElem?_cons_zero] at dk
              have hnl := nums_length hns
              obtain ⟨n0, rfl⟩ : ∃ n0, ns = [n0] := by
                rw [lists_len] at hnl
                have hnl2 : ns.length = 1 := by rw [hnl]; simp [HN.out]
                match ns, hnl2 with
                | [n0], _ => exact ⟨n0, rfl⟩
              obtain ⟨nb, no, ncap, hv4, hnc, hnm, hnb, hcn⟩ := hrv.addr (by simp)
              subst hv4
              have hnb3 := hvb nb rfl
              have hne : nb ≠ sb := by omega
              have x0 := hcn 0 (.int .i64 n0) rfl
              clear hcn hrv hvb hnl
              have HNS := Lib.hid hns
              clear hns hE3 hrow3 HR3 HsD hoE HO d1
              rw [Nat.add_zero] at x0
              have HSX := HS4
              have HN0 := Lib.hid (show stepL s.data.toList = some ⟨6, n0, 0, 0, 0, [], [], 0, 0, [], 0⟩ by rw [HX.out, HNS.out]; rfl)
              have y1 := cell_of_blk HSX.out 1
              have g1 := free_of_blk HSX.out 1
              simp only [List.getElem?_toArray, List.getElem?_cons_zero, List.getElem?_cons_succ] at y1
              have zsX := blk_lt HSX.out
              go_upto_region 28 with fail
              have k1 := blk_setCell_same (i := 1) (v := .int .i64 n0) HSX.out
              simp only [List.setIfInBounds_toArray, List.set_cons_succ, List.set_cons_zero] at k1
              have HS9 := Lib.hid (show (w4.setCell ⟨sb, 1, none⟩ (.int .i64 n0)).heap[sb]? = _ from k1)
              have hoH : Only (fun _ => False) w (w4.setCell ⟨sb, 1, none⟩ (.int .i64 n0)) := (hoF.setCell (p := ⟨sb, 1, none⟩) (fun h => absurd h (by dsimp only; omega)) (.int .i64 n0))
              have HO9 := Lib.hid (res_own (show (w4.setCell ⟨sb, 1, none⟩ (.int .i64 n0)).heap[w.heap.size]? = _ from (blk_setCell_other (Ne.symm hrb)).trans (HR4.out)))
              have hrow8 : Row1 (w4.setCell ⟨sb, 1, none⟩ (.int .i64 n0)) (.slice none 0 0) (bools []) := Row1.nil _
              clear y1 g1 k1
              generalize (w4.setCell ⟨sb, 1, none⟩ (.int .i64 n0)) = w9 at *
              have e0 := cell_of_blk HS9.out 0
              have e1 := cell_of_blk HS9.out 1
              have e2 := cell_of_blk HS9.out 2
              have e3 := cell_of_blk HS9.out 3
              have e4 := cell_of_blk HS9.out 4
              have e5 := cell_of_blk HS9.out 5
              have e6 := cell_of_blk HS9.out 6
              have e7 := cell_of_blk HS9.out 7
              have e8 := cell_of_blk HS9.out 8
              have e9 := cell_of_blk HS9.out 9
              have e10 := cell_of_blk HS9.out 10
              simp only [List.getElem?_toArray, List.getElem?_cons_zero, List.getElem?_cons_succ] at e0 e1 e2 e3 e4 e5 e6 e7 e8 e9 e10
              go_upto_region 30 with fail
              iterate 4 go_step
              refine wpl_store_row rfl rfl 27 _ _ rfl 0 27 11 w.heap.size 1 1 0 zer.toList HO9.out (by decide) _ rfl rfl (.agg #[.int .i64 6, .int .i64 n0, .int .i64 0, .int .i64 0, .int .i64 0, .string ⟨#[]⟩, .string ⟨#[]⟩, .int .i64 0, .int .i64 0, .slice none 0 0, .int .i64 0]) [.int .i64 6, .int .i64 n0, .int .i64 0, .int .i64 0, .int .i64 0, .string ⟨#[]⟩, .string ⟨#[]⟩, .int .i64 0, .int .i64 0, .slice none 0 0, .int .i64 0] rfl rfl rfl (by kernel_rfl) (by simp [Value.oneCell', Str]) ?_
              intro ob HO1
              have ho5 := hoH.setBlk (b := w.heap.size) (fun h => absurd h (Nat.lt_irrefl _)) ob
              have r0 := res_cells HO1 0 rfl
              have r1 := res_cells HO1 1 rfl
              have r2 := res_cells HO1 2 rfl
              have r3 := res_cells HO1 3 rfl
              have r4 := res_cells HO1 4 rfl
              have r5 := res_cells HO1 5 rfl
              have r6 := res_cells HO1 6 rfl
              have r7 := res_cells HO1 7 rfl
              have r8 := res_cells HO1 8 rfl
              have r9 := res_cells HO1 9 rfl
              have r10 := res_cells HO1 10 rfl
              clear HO1 e0 e1 e2 e3 e4 e5 e6 e7 e8 e9 e10
              have hrow9 := Row1.nil (setBlk w9 w.heap.size ob)
              generalize setBlk w9 w.heap.size ob = w5 at *
              go_wp2_with fail
              exact bodyPost_ret (v := .tuple #[.agg #[.int .i64 6, .int .i64 n0, .int .i64 0, .int .i64 0, .int .i64 0, .string ⟨#[]⟩, .string ⟨#[]⟩, .int .i64 0, .int .i64 0, .slice none 0 0, .int .i64 0], .bool true]) (by simp [results, Tryd.results9, go_sem, r0, r1, r2, r3, r4, r5, r6, r7, r8, r9, r10]) rfl ⟨ho5, .inl ⟨⟨6, n0, 0, 0, 0, [], [], 0, 0, [], 0⟩, _, HN0.out, rfl, hrow9, (fun c hc => by cases hc)⟩⟩
          · as_aux_lemma =>
              have hoF := hoE.trans' ho4
              have HN0 := Lib.hid (show stepL s.data.toList = none by rw [HX.out]; exact congrArg (fun z : Option (List Int) => z.bind _) hns)
              have HO4 := Lib.hid (res_own (ho4.blk HR3.out id))
              have HS4 := Lib.hid (ho4.blk HsD.out id)
              have dk := cell_of_blk HS4.out 0
              simp only [List.getElem?_toArray, List.getElem?_cons_zero] at dk
              clear hns
              go_upto_region 29 with fail
              iterate 4 go_step
              refine wpl_store_row rfl rfl 27 _ _ rfl 0 27 11 w.heap.size 1 1 0 zer.toList HO4.out (by decide) _ rfl rfl (.agg zer) zer.toList rfl rfl rfl (by kernel_rfl) zer_one ?_
              intro ob HO1
              have ho5 := hoF.setBlk (b := w.heap.size) (fun h => absurd h (Nat.lt_irrefl _)) ob
              have r0 := res_cells HO1 0 rfl
              have r1 := res_cells HO1 1 rfl
              have r2 := res_cells HO1 2 rfl
              have r3 := res_cells HO1 3 rfl
              have r4 := res_cells HO1 4 rfl
              have r5 := res_cells HO1 5 rfl
              have r6 := res_cells HO1 6 rfl
              have r7 := res_cells HO1 7 rfl
              have r8 := res_cells HO1 8 rfl
              have r9 := res_cells HO1 9 rfl
              have r10 := res_cells HO1 10 rfl
              clear HO1
              generalize setBlk w4 w.heap.size ob = w5 at *
              go_wp2_with fail
              exact bodyPost_ret (v := .tuple #[.agg (stp0.cells (.slice none 0 0)).toArray, .bool false]) (by simp [results, Tryd.results9, go_sem, stp0, Stp.cells, Str, r0, r1, r2, r3, r4, r5, r6, r7, r8, r9, r10]) rfl ⟨ho5, .inr ⟨HN0.out, rfl⟩⟩
        · have hn7 : n = 2 := hnk
          subst hn7
          clear hnk
          have c0 : cnt 8 = 0 := rfl
          have HX := Lib.hid (show stepL s.data.toList = (numsL (lists ((ws.drop 1).take 1))).bind fun ns => stepN 8 ns (lists ws) from step_is HW.out Hs0.out HK.out HN.out (by omega) rfl)
          have hrs := Lib.hid (sub_row (m := 1) hrow3.out HN.out (by decide) (by decide))
          have hc1 : ¬ cap = 1 := by omega
          go_wp2_with fail
          refine (numbers_any hE3.out hrs.out (by simp [HN.out]) (by simp [HN.out]) (fun x hx => by have := Hsz.out x (List.mem_of_mem_drop (List.mem_of_mem_take hx)); omega)).mono ?_
          rintro e w4 ⟨ho4, ⟨v4, ns, hns, rfl, hrv, hvb⟩ | ⟨hns, v4, rfl⟩⟩
          · as_aux_lemma =>
              have hoF := hoE.trans' ho4
              have HR4 := Lib.hid (ho4.blk HR3.out id)
              have HS4 := Lib.hid (ho4.blk HsD.out id)
              have hrow4 := Lib.hid (hrow3.out.new ho4)
              have hE4 := Lib.hid (hE3.out.new ho4)
              have zsb4 := blk_lt HS4.out
              have hrb : w.heap.size ≠ sb := by omega
              have dk := cell_of_blk HS4.out 0
              simp only [List.getElem?_toArray, List.getElem?_cons_zero] at dk
              have hnl := nums_length hns
              obtain ⟨n0, rfl⟩ : ∃ n0, ns = [n0] := by
                rw [lists_len] at hnl
                have hnl2 : ns.length = 1 := by rw [hnl]; simp [HN.out]
                match ns, hnl2 with
                | [n0], _ => exact ⟨n0, rfl⟩
              obtain ⟨nb, no, ncap, hv4, hnc, hnm, hnb, hcn⟩ := hrv.addr (by simp)
              subst hv4
              have hnb3 := hvb nb rfl
              have hne : nb ≠ sb := by omega
              have x0 := hcn 0 (.int .i64 n0) rfl
              clear hcn hrv hvb hnl
              have HNS := Lib.hid hns
              clear hns hE3 hrow3 HR3 HsD hoE HO d1
              rw [Nat.add_zero] at x0
              have HSX := HS4
              have HN0 := Lib.hid (show stepL s.data.toList = some ⟨8, n0, 0, 0, 0, [], [], 0, 0, [], 0⟩ by rw [HX.out, HNS.out]; rfl)
              have y1 := cell_of_blk HSX.out 1
              have g1 := free_of_blk HSX.out 1
              simp only [List.getElem?_toArray, List.getElem?_cons_zero, List.getElem?_cons_succ] at y1
              have zsX := blk_lt HSX.out
              go_upto_region 28 with fail
              have k1 := blk_setCell_same (i := 1) (v := .int .i64 n0) HSX.out
              simp only [List.setIfInBounds_toArray, List.set_cons_succ, List.set_cons_zero] at k1
              have HS9 := Lib.hid (show (w4.setCell ⟨sb, 1, none⟩ (.int .i64 n0)).heap[sb]? = _ from k1)
              have hoH : Only (fun _ => False) w (w4.setCell ⟨sb, 1, none⟩ (.int .i64 n0)) := (hoF.setCell (p := ⟨sb, 1, none⟩) (fun h => absurd h (by dsimp only; omega)) (.int .i64 n0))
              have HO9 := Lib.hid (res_own (show (w4.setCell ⟨sb, 1, none⟩ (.int .i64 n0)).heap[w.heap.size]? = _ from (blk_setCell_other (Ne.symm hrb)).trans (HR4.out)))
              have hrow8 : Row1 (w4.setCell ⟨sb, 1, none⟩ (.int .i64 n0)) (.slice none 0 0) (bools []) := Row1.nil _
              clear y1 g1 k1
              generalize (w4.setCell ⟨sb, 1, none⟩ (.int .i64 n0)) = w9 at *
              have e0 := cell_of_blk HS9.out 0
              have e1 := cell_of_blk HS9.out 1
              have e2 := cell_of_blk HS9.out 2
              have e3 := cell_of_blk HS9.out 3
              have e4 := cell_of_blk HS9.out 4
              have e5 := cell_of_blk HS9.out 5
              have e6 := cell_of_blk HS9.out 6
              have e7 := cell_of_blk HS9.out 7
              have e8 := cell_of_blk HS9.out 8
              have e9 := cell_of_blk HS9.out 9
              have e10 := cell_of_blk HS9.out 10
              simp only [List.getElem?_toArray, List.getElem?_cons_zero, List.getElem?_cons_succ] at e0 e1 e2 e3 e4 e5 e6 e7 e8 e9 e10
              go_upto_region 30 with fail
              iterate 4 go_step
              refine wpl_store_row rfl rfl 27 _ _ rfl 0 27 11 w.heap.size 1 1 0 zer.toList HO9.out (by decide) _ rfl rfl (.agg #[.int .i64 8, .int .i64 n0, .int .i64 0, .int .i64 0, .int .i64 0, .string ⟨#[]⟩, .string ⟨#[]⟩, .int .i64 0, .int .i64 0, .slice none 0 0, .int .i64 0]) [.int .i64 8, .int .i64 n0, .int .i64 0, .int .i64 0, .int .i64 0, .string ⟨#[]⟩, .string ⟨#[]⟩, .int .i64 0, .int .i64 0, .slice none 0 0, .int .i64 0] rfl rfl rfl (by kernel_rfl) (by simp [Value.oneCell', Str]) ?_
              intro ob HO1
              have ho5 := hoH.setBlk (b := w.heap.size) (fun h => absurd h (Nat.lt_irrefl _)) ob
              have r0 := res_cells HO1 0 rfl
              have r1 := res_cells HO1 1 rfl
              have r2 := res_cells HO1 2 rfl
              have r3 := res_cells HO1 3 rfl
              have r4 := res_cells HO1 4 rfl
              have r5 := res_cells HO1 5 rfl
              have r6 := res_cells HO1 6 rfl
              have r7 := res_cells HO1 7 rfl
              have r8 := res_cells HO1 8 rfl
              have r9 := res_cells HO1 9 rfl
              have r10 := res_cells HO1 10 rfl
              clear HO1 e0 e1 e2 e3 e4 e5 e6 e7 e8 e9 e10
              have hrow9 := Row1.nil (setBlk w9 w.heap.size ob)
              generalize setBlk w9 w.heap.size ob = w5 at *
              go_wp2_with fail
              exact bodyPost_ret (v := .tuple #[.agg #[.int .i64 8, .int .i64 n0, .int .i64 0, .int .i64 0, .int .i64 0, .string ⟨#[]⟩, .string ⟨#[]⟩, .int .i64 0, .int .i64 0, .slice none 0 0, .int .i64 0], .bool true]) (by simp [results, Tryd.results9, go_sem, r0, r1, r2, r3, r4, r5, r6, r7, r8, r9, r10]) rfl ⟨ho5, .inl ⟨⟨8, n0, 0, 0, 0, [], [], 0, 0, [], 0⟩, _, HN0.out, rfl, hrow9, (fun c hc => by cases hc)⟩⟩
          · as_aux_lemma =>
              have hoF := hoE.trans' ho4
              have HN0 := Lib.hid (show stepL s.data.toList = none by rw [HX.out]; exact congrArg (fun z : Option (List Int) => z.bind _) hns)
              have HO4 := Lib.hid (res_own (ho4.blk HR3.out id))
              have HS4 := Lib.hid (ho4.blk HsD.out id)
              have dk := cell_of_blk HS4.out 0
              simp only [List.getElem?_toArray, List.getElem?_cons_zero] at dk
              clear hns
              go_upto_region 29 with fail
              iterate 4 go_step
              refine wpl_store_row rfl rfl 27 _ _ rfl 0 27 11 w.heap.size 1 1 0 zer.toList HO4.out (by decide) _ rfl rfl (.agg zer) zer.toList rfl rfl rfl (by kernel_rfl) zer_one ?_
              intro ob HO1
              have ho5 := hoF.setBlk (b := w.heap.size) (fun h => absurd h (Nat.lt_irrefl _)) ob
              have r0 := res_cells HO1 0 rfl
              have r1 := res_cells HO1 1 rfl
              have r2 := res_cells HO1 2 rfl
              have r3 := res_cells HO1 3 rfl
              have r4 := res_cells HO1 4 rfl
              have r5 := res_cells HO1 5 rfl
              have r6 := res_cells HO1 6 rfl
              have r7 := res_cells HO1 7 rfl
              have r8 := res_cells HO1 8 rfl
              have r9 := res_cells HO1 9 rfl
              have r10 := res_cells HO1 10 rfl
              clear HO1
              generalize setBlk w4 w.heap.size ob = w5 at *
              go_wp2_with fail
              exact bodyPost_ret (v := .tuple #[.agg (stp0.cells (.slice none 0 0)).toArray, .bool false]) (by simp [results, Tryd.results9, go_sem, stp0, Stp.cells, Str, r0, r1, r2, r3, r4, r5, r6, r7, r8, r9, r10]) rfl ⟨ho5, .inr ⟨HN0.out, rfl⟩⟩
        · obtain ⟨hd1, hd2⟩ := hd
          have c0 : cnt k = 0 := by unfold cnt; rw [if_neg (by omega), if_neg (by omega), if_neg (by omega)]
          have hc2 := cnt_zero hk c0 k0
          have HD := Lib.hid (And.intro hd1 hd2)
          have hn7 : n = 2 := hnk.trans hc2
          subst hn7
          have f0 : ((k : Int) == 0) = false := by simp; omega
          have f1 : ((k : Int) == 1) = false := by simp; omega
          have f9 : ((k : Int) == 9) = false := by simp; omega
          have f7 : ((k : Int) == 7) = false := by simp; omega
          have f6 : ((k : Int) == 6) = false := by simp; omega
          have f8 : ((k : Int) == 8) = false := by simp; omega
          have HX := Lib.hid (show stepL s.data.toList = (numsL (lists ((ws.drop 1).take 1))).bind fun ns => stepN k ns (lists ws) from by have h := step_is HW.out Hs0.out HK.out HN.out (by omega) hnk; rw [hc2] at h; exact h)
          clear hnk hc2 hd1 hd2 k0 hk
          have hrs := Lib.hid (sub_row (m := 1) hrow3.out HN.out (by decide) (by decide))
          have hc1 : ¬ cap = 1 := by omega
          go_wp2_with fail
          refine (numbers_any hE3.out hrs.out (by simp [HN.out]) (by simp [HN.out]) (fun x hx => by have := Hsz.out x (List.mem_of_mem_drop (List.mem_of_mem_take hx)); omega)).mono ?_
          rintro e w4 ⟨ho4, ⟨v4, ns, hns, rfl, hrv, hvb⟩ | ⟨hns, v4, rfl⟩⟩
          · as_aux_lemma =>
              have hoF := hoE.trans' ho4
              have HR4 := Lib.hid (ho4.blk HR3.out id)
              have HS4 := Lib.hid (ho4.blk HsD.out id)
              have hrow4 := Lib.hid (hrow3.out.new ho4)
              have hE4 := Lib.hid (hE3.out.new ho4)
              have zsb4 := blk_lt HS4.out
              have hrb : w.heap.size ≠ sb := by omega
              have dk := cell_of_blk HS4.out 0
              simp only [List.getElem?_toArray, List.getElem?_cons_zero] at dk
              have hnl := nums_length hns
              obtain ⟨n0, rfl⟩ : ∃ n0, ns = [n0] := by
                rw [lists_len] at hnl
                have hnl2 : ns.length = 1 := by rw [hnl]; simp [HN.out]
                match ns, hnl2 with
                | [n0], _ => exact ⟨n0, rfl⟩
              obtain ⟨nb, no, ncap, hv4, hnc, hnm, hnb, hcn⟩ := hrv.addr (by simp)
              subst hv4
              have hnb3 := hvb nb rfl
              have hne : nb ≠ sb := by omega
              have x0 := hcn 0 (.int .i64 n0) rfl
              clear hcn hrv hvb hnl
              have HNS := Lib.hid hns
              clear hns hE3 hrow3 HR3 HsD hoE HO d1
              rw [Nat.add_zero] at x0
              have HSX := HS4
              have HN0 := Lib.hid (show stepL s.data.toList = some ⟨(k : Int), 0, 0, 0, 0, [], [], n0, 0, [], 0⟩ by rw [HX.out, HNS.out]; exact step_default HD.out)
              have y7 := cell_of_blk HSX.out 7
              have g7 := free_of_blk HSX.out 7
              simp only [List.getElem?_toArray, List.getElem?_cons_zero, List.getElem?_cons_succ] at y7
              have zsX := blk_lt HSX.out
              go_upto_region 28 with fail
              have k1 := blk_setCell_same (i := 7) (v := .int .i64 n0) HSX.out
              simp only [List.setIfInBounds_toArray, List.set_cons_succ, List.set_cons_zero] at k1
              have HS9 := Lib.hid (show (w4.setCell ⟨sb, 7, none⟩ (.int .i64 n0)).heap[sb]? = _ from k1)
              have hoH : Only (fun _ => False) w (w4.setCell ⟨sb, 7, none⟩ (.int .i64 n0)) := (hoF.setCell (p := ⟨sb, 7, none⟩) (fun h => absurd h (by dsimp only; omega)) (.int .i64 n0))
              have HO9 := Lib.hid (res_own (show (w4.setCell ⟨sb, 7, none⟩ (.int .i64 n0)).heap[w.heap.size]? = _ from (blk_setCell_other (Ne.symm hrb)).trans (HR4.out)))
              have hrow8 : Row1 (w4.setCell ⟨sb, 7, none⟩ (.int .i64 n0)) (.slice none 0 0) (bools []) := Row1.nil _
              clear y7 g7 k1
              generalize (w4.setCell ⟨sb, 7, none⟩ (.int .i64 n0)) = w9 at *
              have e0 := cell_of_blk HS9.out 0
              have e1 := cell_of_blk HS9.out 1
              have e2 := cell_of_blk HS9.out 2
              have e3 := cell_of_blk HS9.out 3
              have e4 := cell_of_blk HS9.out 4
              have e5 := cell_of_blk HS9.out 5
              have e6 := cell_of_blk HS9.out 6
              have e7 := cell_of_blk HS9.out 7
              have e8 := cell_of_blk HS9.out 8
              have e9 := cell_of_blk HS9.out 9
              have e10 := cell_of_blk HS9.out 10
              simp only [List.getElem?_toArray, List.getElem?_cons_zero, List.getElem?_cons_succ] at e0 e1 e2 e3 e4 e5 e6 e7 e8 e9 e10
              go_upto_region 30 with fail
              iterate 4 go_step
              refine wpl_store_row rfl rfl 27 _ _ rfl 0 27 11 w.heap.size 1 1 0 zer.toList HO9.out (by decide) _ rfl rfl (.agg #[.int .i64 (k : Int), .int .i64 0, .int .i64 0, .int .i64 0, .int .i64 0, .string ⟨#[]⟩, .string ⟨#[]⟩, .int .i64 n0, .int .i64 0, .slice none 0 0, .int .i64 0]) [.int .i64 (k : Int), .int .i64 0, .int .i64 0, .int .i64 0, .int .i64 0, .string ⟨#[]⟩, .string ⟨#[]⟩, .int .i64 n0, .int .i64 0, .slice none 0 0, .int .i64 0] rfl rfl rfl (by kernel_rfl) (by simp [Value.oneCell', Str]) ?_
              intro ob HO1
              have ho5 := hoH.setBlk (b := w.heap.size) (fun h => absurd h (Nat.lt_irrefl _)) ob
              have r0 := res_cells HO1 0 rfl
              have r1 := res_cells HO1 1 rfl
              have r2 := res_cells HO1 2 rfl
              have r3 := res_cells HO1 3 rfl
              have r4 := res_cells HO1 4 rfl
              have r5 := res_cells HO1 5 rfl
              have r6 := res_cells HO1 6 rfl
              have r7 := res_cells HO1 7 rfl
              have r8 := res_cells HO1 8 rfl
              have r9 := res_cells HO1 9 rfl
              have r10 := res_cells HO1 10 rfl
              clear HO1 e0 e1 e2 e3 e4 e5 e6 e7 e8 e9 e10
              have hrow9 := Row1.nil (setBlk w9 w.heap.size ob)
              generalize setBlk w9 w.heap.size ob = w5 at *
              go_wp2_with fail
              exact bodyPost_ret (v := .tuple #[.agg #[.int .i64 (k : Int), .int .i64 0, .int .i64 0, .int .i64 0, .int .i64 0, .string ⟨#[]⟩, .string ⟨#[]⟩, .int .i64 n0, .int .i64 0, .slice none 0 0, .int .i64 0], .bool true]) (by simp [results, Tryd.results9, go_sem, r0, r1, r2, r3, r4, r5, r6, r7, r8, r9, r10]) rfl ⟨ho5, .inl ⟨⟨(k : Int), 0, 0, 0, 0, [], [], n0, 0, [], 0⟩, _, HN0.out, rfl, hrow9, (fun c hc => by cases hc)⟩⟩
          · as_aux_lemma =>
              have hoF := hoE.trans' ho4
              have HN0 := Lib.hid (show stepL s.data.toList = none by rw [HX.out]; exact congrArg (fun z : Option (List Int) => z.bind _) hns)
              have HO4 := Lib.hid (res_own (ho4.blk HR3.out id))
              have HS4 := Lib.hid (ho4.blk HsD.out id)
              have dk := cell_of_blk HS4.out 0
              simp only [List.getElem?_toArray, List.getElem?_cons_zero] at dk
              clear hns
              go_upto_region 29 with fail
              iterate 4 go_step
              refine wpl_store_row rfl rfl 27 _ _ rfl 0 27 11 w.heap.size 1 1 0 zer.toList HO4.out (by decide) _ rfl rfl (.agg zer) zer.toList rfl rfl rfl (by kernel_rfl) zer_one ?_
              intro ob HO1
              have ho5 := hoF.setBlk (b := w.heap.size) (fun h => absurd h (Nat.lt_irrefl _)) ob
              have r0 := res_cells HO1 0 rfl
              have r1 := res_cells HO1 1 rfl
              have r2 := res_cells HO1 2 rfl
              have r3 := res_cells HO1 3 rfl
              have r4 := res_cells HO1 4 rfl
              have r5 := res_cells HO1 5 rfl
              have r6 := res_cells HO1 6 rfl
              have r7 := res_cells HO1 7 rfl
              have r8 := res_cells HO1 8 rfl
              have r9 := res_cells HO1 9 rfl
              have r10 := res_cells HO1 10 rfl
              clear HO1
              generalize setBlk w4 w.heap.size ob = w5 at *
              go_wp2_with fail
              exact bodyPost_ret (v := .tuple #[.agg (stp0.cells (.slice none 0 0)).toArray, .bool false]) (by simp [results, Tryd.results9, go_sem, stp0, Stp.cells, Str, r0, r1, r2, r3, r4, r5, r6, r7, r8, r9, r10]) rfl ⟨ho5, .inr ⟨HN0.out, rfl⟩⟩
/-- The same, without the newness. -/
theorem step_any (s : ByteArray) (hs : s.size ≤ 1048576) {w : World} (hE : Env w) :
    Calls Tryd.prog 9 #[.string s] w (StepR s.data.toList w) := by
  refine (step_new s hs hE).mono ?_
  rintro e w1 ⟨ho, ⟨t, v, h1, h2, h3, _⟩ | h⟩
  · exact ⟨ho, .inl ⟨t, v, h1, h2, h3⟩⟩
  · exact ⟨ho, .inr h⟩
end Go.Proofs.YtcocmljollnpdaaDoor
