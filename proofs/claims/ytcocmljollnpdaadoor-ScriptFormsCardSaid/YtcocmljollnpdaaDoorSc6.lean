/- script: a step as words; what call does. -/
import Derived.Test.YtcocmljollnpdaaDoorSc5
namespace Go.Proofs.YtcocmljollnpdaaDoor
open Go Go.RowKit Go.Dm
set_option linter.unusedVariables false
set_option linter.unusedSimpArgs false

structure Stp where
  kind : Int
  node : Int
  sess : Int
  req : Int
  ck : Int
  key : List UInt8
  val : List UInt8
  at_ : Int
  n : Int
  keep : List Bool
  tear : Int
def stp0 : Stp := ⟨0, 0, 0, 0, 0, [], [], 0, 0, [], 0⟩
def countOf (k : Nat) : Nat := if k = 1 then 7 else if k = 7 then 3 else if k = 9 then 5 else 2
def callW (ns : List Int) (ws : List (List UInt8)) : Option Stp :=
  match unhexL (ws.getD 5 []), unhexL (ws.getD 6 []) with
  | some a, some b => if 0 < kindL callsT (ws.getD 4 []) then some ⟨1, ns.getD 0 0, ns.getD 1 0, ns.getD 2 0, kindL callsT (ws.getD 4 []), a, b, 0, 0, [], 0⟩ else none
  | _, _ => none
def stepN (k : Nat) (ns : List Int) (ws : List (List UInt8)) : Option Stp :=
  if k = 1 then callW ns ws
  else if k = 9 then (unbitsL (ws.getD 4 [])).map fun l => ⟨9, ns.getD 0 0, 0, 0, 0, [], [], 0, ns.getD 1 0, l, ns.getD 2 0⟩
  else if k = 7 then some ⟨7, ns.getD 0 0, 0, 0, 0, [], [], 0, ns.getD 1 0, [], 0⟩
  else if k = 6 ∨ k = 8 then some ⟨k, ns.getD 0 0, 0, 0, 0, [], [], 0, 0, [], 0⟩
  else some ⟨k, 0, 0, 0, 0, [], [], ns.getD 0 0, 0, [], 0⟩
def stepW (ws : List (List UInt8)) : Option Stp :=
  if kindL stepsT (ws.getD 0 []) = 0 ∨ ws.length ≠ countOf (kindL stepsT (ws.getD 0 [])) then none
  else (numsL ((ws.take (min (countOf (kindL stepsT (ws.getD 0 []))) 4)).drop 1)).bind fun ns => stepN (kindL stepsT (ws.getD 0 [])) ns ws
def stepL (t : List UInt8) : Option Stp := stepW (sp 32 t)

/-! In memory. -/
def Stp.cells (s : Stp) (v : Value) : List Value := [.int .i64 s.kind, .int .i64 s.node, .int .i64 s.sess, .int .i64 s.req, .int .i64 s.ck, Str s.key, Str s.val, .int .i64 s.at_, .int .i64 s.n, v, .int .i64 s.tear]
def bools (l : List Bool) : List Value := l.map Value.bool

theorem kindFrom_le (w : List UInt8) : ∀ (T : List (List UInt8)) (i : Nat), kindFrom w i T = 0 ∨ (i ≤ kindFrom w i T ∧ kindFrom w i T < i + T.length)
  | [], i => .inl rfl
  | x :: r, i => by
    unfold kindFrom
    split
    · exact .inr ⟨Nat.le_refl _, by simp⟩
    · rcases kindFrom_le w r (i + 1) with h | h
      · exact .inl h
      · exact .inr ⟨by omega, by simp; omega⟩
theorem kindL_lt (T : List (List UInt8)) (w : List UInt8) (h : 0 < T.length) : kindL T w < T.length := by
  unfold kindL
  rcases kindFrom_le w T 0 with h1 | h1 <;> omega

theorem Env.callsRow {w : World} (h : Env w) : Row1 w (.slice (some ⟨1, 0, none⟩) 7 7) (callsT.map Str) :=
  ⟨_, 7, rfl, by decide, by decide, fun _ => ⟨1, 0, rfl, by have := h.big; omega, fun i x hx => by
    rw [List.getElem?_map] at hx
    obtain ⟨l, hl, rfl⟩ := Option.map_eq_some_iff.1 hx
    rw [Nat.zero_add]
    exact h.calls i l hl⟩⟩
theorem Env.stepsRow {w : World} (h : Env w) : Row1 w (.slice (some ⟨0, 0, none⟩) 10 10) (stepsT.map Str) :=
  ⟨_, 10, rfl, by decide, by decide, fun _ => ⟨0, 0, rfl, by have := h.big; omega, fun i x hx => by
    rw [List.getElem?_map] at hx
    obtain ⟨l, hl, rfl⟩ := Option.map_eq_some_iff.1 hx
    rw [Nat.zero_add]
    exact h.steps i l hl⟩⟩

/-- What call leaves: in the step's block sb the three cells; whether all is right. -/
def CallR (sb : Nat) (s4 s5 s6 : List UInt8) (w : World) (e : Ending) (w' : World) : Prop :=
  Only (fun c => c = sb) w w' ∧
    ((∃ a b, unhexL s5 = some a ∧ unhexL s6 = some b ∧ 0 < kindL callsT s4 ∧ e = .returned (.bool true) ∧
        w'.heap[sb]? = some (.cells #[.int .i64 1, .int .i64 0, .int .i64 0, .int .i64 0, .int .i64 (kindL callsT s4 : Int), Str a, Str b, .int .i64 0, .int .i64 0, .slice none 0 0, .int .i64 0] 27 (0, 0))) ∨
      ((unhexL s5 = none ∨ unhexL s6 = none ∨ kindL callsT s4 = 0) ∧ e = .returned (.bool false) ∧ ∃ cs, w'.heap[sb]? = some (.cells cs 27 (0, 0))))

set_option maxHeartbeats 8000000 in
set_option maxRecDepth 100000 in
theorem call_any {w : World} {sb : Nat} {v : Value} {ws : List ByteArray} (hE : Env w) (hsb : w.heap[sb]? = some (.cells #[.int .i64 1, .int .i64 0, .int .i64 0, .int .i64 0, .int .i64 0, .string ⟨#[]⟩, .string ⟨#[]⟩, .int .i64 0, .int .i64 0, .slice none 0 0, .int .i64 0] 27 (0, 0)))
    (hb10 : 10 ≤ sb) (h : Row1 w v (ws.map Value.string)) (hn : ws.length = 7) (hw : ∀ x ∈ ws, x.size ≤ 1073741824) {s4 s5 s6 : ByteArray} (h4 : ws[4]? = some s4) (h5 : ws[5]? = some s5) (h6 : ws[6]? = some s6) :
    Calls Tryd.prog 23 #[.pointer (some ⟨sb, 0, none⟩), v] w (CallR sb s4.data.toList s5.data.toList s6.data.toList w) := by
  have HE := Lib.hid hE
  obtain ⟨b, o, cap, hv, hcap, hmax, hb, hc⟩ := h.addr (by simp [hn])
  rw [List.length_map, hn] at hv hcap
  subst hv
  have hsz5 : s5.size ≤ 1073741824 := hw s5 (List.mem_of_getElem? h5)
  have hsz6 : s6.size ≤ 1073741824 := hw s6 (List.mem_of_getElem? h6)
  have w4 := hc 4 (.string s4) (by rw [List.getElem?_map, h4]; rfl)
  have w5 := hc 5 (.string s5) (by rw [List.getElem?_map, h5]; rfl)
  have w6 := hc 6 (.string s6) (by rw [List.getElem?_map, h6]; rfl)
  have HS := Lib.hid hsb
  clear h hE hn hw h4 h5 h6 hc hsb
  go_enter Tryd.func23, Tryd.ntmps23
  go_wp2_with fail
  refine (unhex_any s5 hsz5).mono ?_
  rintro e w1 ⟨rfl, ho1⟩
  have z1 := Nat.lt_of_lt_of_le hb ho1.size
  have v6 : w1.cell? ⟨b, o + 6, none⟩ = some (.string s6) := by rw [World.cell?_of_block (w := w) (ho1.block b hb id)]; exact w6
  have v4 : w1.cell? ⟨b, o + 4, none⟩ = some (.string s4) := by rw [World.cell?_of_block (w := w) (ho1.block b hb id)]; exact w4
  clear w4 w5 w6
  generalize hx5 : unhexL s5.data.toList = x5 at *
  have Hx5 := Lib.hid hx5
  clear hx5
  go_wp2_with fail
  refine (unhex_any s6 hsz6).mono ?_
  rintro e w2 ⟨rfl, ho2⟩
  have u4 : w2.cell? ⟨b, o + 4, none⟩ = some (.string s4) := by rw [World.cell?_of_block (w := w1) (ho2.block b z1 id)]; exact v4
  have z2 := Nat.lt_of_lt_of_le z1 ho2.size
  generalize hx6 : unhexL s6.data.toList = x6 at *
  have Hx6 := Lib.hid hx6
  have hoo := ho1.trans' ho2
  have hE2 := Lib.hid (HE.out.new hoo)
  have hS2 := (ho1.trans' ho2).blk HS.out id
  clear hx6 v4 v6 ho1 ho2 z1 HS
  have zs := blk_lt hS2
  go_wp2_with fail
  refine wp_region_segR [0,0,0,1,1,1,1,2,0,0,2,2,2,2,2,2,2,2,2,2,2,2] (by kernel_rfl) (by kernel_rfl) ?_
  refine seg_free rfl ?_
  go_big_quiet_step (fail)
  refine wpQuiet_nil ?_
  refine seg_free rfl ?_
  go_big_quiet_step (fail)
  refine wpQuiet_nil ?_
  refine seg_free rfl ?_
  go_big_quiet_step (fail)
  refine wpQuiet_nil ?_
  refine seg_reads 4 (by decide) (by decide) ?_
  simp only [List.take_succ_cons, List.take_zero, List.drop_succ_cons, List.drop_zero]
  iterate 4 (go_big_quiet_step (fail))
  refine wpQuiet_nil ?_
  refine seg_step (by kernel_rfl) ?_
  go_wp2_with fail
  refine (kind_any s4 (show Row1 w2.drew _ _ from hE2.out.callsRow) (by decide) (by decide)).mono ?_
  rintro e w3 ⟨rfl, rfl⟩
  go_wp2_with fail
  refine strict_intro ?_
  refine seg_free rfl ?_
  go_big_quiet_step (fail)
  refine wpQuiet_nil ?_
  refine seg_free rfl ?_
  go_big_quiet_step (fail)
  refine wpQuiet_nil ?_
  refine seg_list' _ _ _ _ (by kernel_rfl) ?_
  generalize hck : kindL callsT s4.data.toList = ck at *
  have Hck := Lib.hid hck
  have c5 := cell_of_blk hS2 4
  have c6 := cell_of_blk hS2 5
  have c7 := cell_of_blk hS2 6
  have f5 := free_of_blk hS2 4
  have f6 := free_of_blk hS2 5
  have f7 := free_of_blk hS2 6
  simp only [List.getElem?_toArray, List.getElem?_cons_zero, List.getElem?_cons_succ] at c5 c6 c7
  have c5' : w2.drew.cell? ⟨sb, 4, none⟩ = _ := c5
  clear hck
  unfold Str at *
  go_wp2_with fail
  refine strict_then ?_
  have k1 := blk_setCell_same (i := 4) (v := .int .i64 (ck : Int)) hS2
  have k2 := blk_setCell_same (i := 5) (v := Value.string { data := (x5.getD []).toArray }) k1
  have k3 := blk_setCell_same (i := 6) (v := Value.string { data := (x6.getD []).toArray }) k2
  simp only [List.setIfInBounds_toArray, List.set_cons_succ, List.set_cons_zero] at k3
  have hoF : Only (fun c => c = sb) w (((w2.setCell ⟨sb, 4, none⟩ (.int .i64 (ck : Int))).setCell ⟨sb, 5, none⟩ (Value.string { data := (x5.getD []).toArray })).setCell ⟨sb, 6, none⟩ (Value.string { data := (x6.getD []).toArray })).drew := by
    refine (((hoo.mono (fun _ _ h => h.elim)).setCell ?_ _).setCell ?_ _ |>.setCell ?_ _).drew <;> exact fun _ => rfl
  generalize (((w2.setCell ⟨sb, 4, none⟩ (.int .i64 (ck : Int))).setCell ⟨sb, 5, none⟩ (Value.string { data := (x5.getD []).toArray })).setCell ⟨sb, 6, none⟩ (Value.string { data := (x6.getD []).toArray })) = w9 at *
  have K3 := Lib.hid k3
  have d5 := cell_of_blk k3 4
  simp only [List.getElem?_toArray, List.getElem?_cons_zero, List.getElem?_cons_succ] at d5
  clear c5 c6 c7 f5 f6 f7 c5' k1 k2 k3 hS2
  cases x5 with
  | none =>
    go_wp2_with fail
    go_ret
    exact ⟨hoF, .inr ⟨.inl Hx5.out, rfl, _, K3.out⟩⟩
  | some a5 =>
    cases x6 with
    | none =>
      go_wp2_with fail
      go_ret
      exact ⟨hoF, .inr ⟨.inr (.inl Hx6.out), rfl, _, K3.out⟩⟩
    | some a6 =>
      by_cases h0 : 0 < ck
      · have g0 : decide (0 < (ck : Int)) = true := decide_eq_true (by omega)
        have g1 : decide (0 < ck) = true := decide_eq_true h0
        have hp := Lib.hid h0
        clear h0
        go_wp2_with fail
        go_ret
        refine ⟨hoF, .inl ⟨a5, a6, Hx5.out, Hx6.out, by rw [Hck.out]; exact hp.out, rfl, ?_⟩⟩
        rw [Hck.out]
        exact K3.out
      · have g0 : decide (0 < (ck : Int)) = false := decide_eq_false (by omega)
        have g1 : decide (0 < ck) = false := decide_eq_false h0
        have hp := Lib.hid h0
        clear h0
        go_wp2_with fail
        go_ret
        exact ⟨hoF, .inr ⟨.inr (.inr (by rw [Hck.out]; have := hp.out; omega)), rfl, _, K3.out⟩⟩
end Go.Proofs.YtcocmljollnpdaaDoor
