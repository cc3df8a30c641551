/- script: a step as it is handed in. -/
import Derived.Test.YtcocmljollnpdaaDoorSc10
import Derived.Test.YtcocmljollnpdaaDoorSc3
import Derived.Deep.Slices
import Derived.WalkKit
import Derived.ProofKit
import Derived.OpenShut
import Derived.ShutString
import Derived.ChangeOld
import Derived.SizedLaws
namespace Go.Proofs.YtcocmljollnpdaaDoor
open Go.RowKit Go.Dm Go.ChangeShapes Go.WideShapes Go.ChangeAt

section
variable {H : Type} {enc : TypeId × Value → H} {w : World} {base : Nat} {spare : Nat → Bool} {held : Bool}
set_option maxRecDepth 100000 in
theorem call_open {n : Nat} {cs : List Value} {y : DataW H × List MemPlace} (h : DataW.trod enc Tryd.prog w base spare held n 24 cs = some y) :
    ∃ (a b c : Int) (s t : ByteArray), cs = [.int .i64 a, .int .i64 b, .int .i64 c, .string s, .string t] ∧ (Lit.int .i64 a).wf = true ∧ (Lit.int .i64 b).wf = true ∧ (Lit.int .i64 c).wf = true := by
  obtain ⟨ys, m, _, _, hl, hyl, hf⟩ := DataW.trod_struct Tryd.underlying24 h
  have hc : Tryd.prog.cellsOf 24 = 5 := by kernel_rfl
  have e1 : Tryd.prog.cellsOf 3 = 1 := by kernel_rfl
  have e2 : Tryd.prog.cellsOf 9 = 1 := by kernel_rfl
  rw [hc] at hl
  match cs, hl, ys, hyl with
  | [c0, c1, c2, c3, c4], _, [y0, y1, y2, y3, y4], _ =>
    have f0 : DataW.trod enc Tryd.prog w base spare held m 3 (List.take (Tryd.prog.cellsOf 3) (List.drop 0 [c0, c1, c2, c3, c4])) = some y0 := hf 0 _ rfl
    have f1 : DataW.trod enc Tryd.prog w base spare held m 3 (List.take (Tryd.prog.cellsOf 3) (List.drop 1 [c0, c1, c2, c3, c4])) = some y1 := hf 1 _ rfl
    have f2 : DataW.trod enc Tryd.prog w base spare held m 3 (List.take (Tryd.prog.cellsOf 3) (List.drop 2 [c0, c1, c2, c3, c4])) = some y2 := hf 2 _ rfl
    have f3 : DataW.trod enc Tryd.prog w base spare held m 9 (List.take (Tryd.prog.cellsOf 9) (List.drop 3 [c0, c1, c2, c3, c4])) = some y3 := hf 3 _ rfl
    have f4 : DataW.trod enc Tryd.prog w base spare held m 9 (List.take (Tryd.prog.cellsOf 9) (List.drop 4 [c0, c1, c2, c3, c4])) = some y4 := hf 4 _ rfl
    simp only [e1, e2, List.drop_zero, List.drop_succ_cons, List.take_succ_cons, List.take_zero] at f0 f1 f2 f3 f4
    obtain ⟨a, ha, _, wa⟩ := DataW.trod_int Tryd.underlying3 f0
    obtain ⟨b, hb, _, wb⟩ := DataW.trod_int Tryd.underlying3 f1
    obtain ⟨c, hcc, _, wc⟩ := DataW.trod_int Tryd.underlying3 f2
    obtain ⟨s, hs, _⟩ := DataW.trod_string Tryd.underlying9 f3
    obtain ⟨t, ht, _⟩ := DataW.trod_string Tryd.underlying9 f4
    simp only [List.cons.injEq, and_true] at ha hb hcc hs ht
    exact ⟨a, b, c, s, t, by rw [ha, hb, hcc, hs, ht], wa, wb, wc⟩
theorem i64_of {n : Int} (h : (Lit.int .i64 n).wf = true) : I64 n := by
  have h' := h
  simp [Lit.wf, IntKind.min, IntKind.max, IntKind.signed, IntKind.bits] at h'
  unfold I64
  omega
theorem keep_open {n : Nat} {c : Value} {y : DataW H × List MemPlace} (h : DataW.trod enc Tryd.prog w base spare held n 25 [c] = some y) : ∃ l : List Bool, Row1 w c (bools l) := by
  rcases Go.Deep.open_slice1 Tryd.underlying25 (by kernel_rfl) h with ⟨hc, _⟩ | ⟨a, len, cap, m, k, V, D, Pl, hc, _, hl, hm, hmm, _, hi⟩
  · simp only [List.cons.injEq, and_true] at hc
    subst hc
    exact ⟨[], Row1.nil w⟩
  · simp only [List.cons.injEq, and_true] at hc
    subst hc
    have hlm : len ≤ m := by rw [hmm]; split <;> omega
    have hex : ∀ i, ∃ b : Bool, i < len → w.cell? (a.add i) = some (.bool b) := fun i => by
      by_cases h : i < len
      · obtain ⟨h1, h2⟩ := hi i (by omega)
        obtain ⟨b, hb, _⟩ := DataW.trod_bool Tryd.underlying4 h2
        simp only [List.cons.injEq, and_true] at hb
        exact ⟨b, fun _ => by rw [h1, hb]⟩
      · exact ⟨false, fun h' => absurd h' h⟩
    obtain ⟨f, hf⟩ := Classical.axiomOfChoice hex
    refine ⟨(List.range len).map f, some a, cap, by unfold bools; simp, by unfold bools; simpa using hl, hm, fun h0 => ?_⟩
    have h0' : 0 < len := by unfold bools at h0; simpa using h0
    have hx : a.spot = none := by
      have h1 := hf 0 h0'
      have e : a.add 0 = a := by simp [Addr.add]
      rw [e] at h1
      unfold World.cell? at h1
      cases hsp : a.spot with
      | none => rfl
      | some q => rw [hsp] at h1; split at h1 <;> simp at h1
    obtain ⟨b, o, s⟩ := a
    dsimp only at hx
    subst hx
    have hb := World.block_lt_of_cell? w _ (hf 0 h0')
    rw [add_none] at hb
    refine ⟨b, o, rfl, hb, fun i x hx => ?_⟩
    unfold bools at hx
    rw [List.map_map, List.getElem?_map] at hx
    by_cases hlt : i < len
    · rw [List.getElem?_range hlt] at hx
      have := hf i hlt
      rw [add_none] at this
      rw [this]
      simpa using hx
    · rw [List.getElem?_eq_none (by simp; omega)] at hx
      cases hx
set_option maxRecDepth 100000 in
theorem step_cells {n : Nat} {cs : List Value} {y : DataW H × List MemPlace} (h : DataW.trod enc Tryd.prog w base spare held n 27 cs = some y) :
    ∃ (s : Stp) (u : Value), cs = s.cells u ∧ Fit s ∧ Row1 w u (bools s.keep) := by
  obtain ⟨ys, m, _, _, hl, hyl, hf⟩ := DataW.trod_struct Tryd.underlying27 h
  have hc : Tryd.prog.cellsOf 27 = 11 := by kernel_rfl
  have e1 : Tryd.prog.cellsOf 3 = 1 := by kernel_rfl
  have e2 : Tryd.prog.cellsOf 24 = 5 := by kernel_rfl
  have e3 : Tryd.prog.cellsOf 25 = 1 := by kernel_rfl
  rw [hc] at hl
  match cs, hl, ys, hyl with
  | [c0, c1, c2, c3, c4, c5, c6, c7, c8, c9, c10], _, [y0, y1, y2, y3, y4, y5, y6], _ =>
    have f0 : DataW.trod enc Tryd.prog w base spare held m 3 (List.take (Tryd.prog.cellsOf 3) (List.drop 0 [c0, c1, c2, c3, c4, c5, c6, c7, c8, c9, c10])) = some y0 := hf 0 _ rfl
    have f1 : DataW.trod enc Tryd.prog w base spare held m 3 (List.take (Tryd.prog.cellsOf 3) (List.drop 1 [c0, c1, c2, c3, c4, c5, c6, c7, c8, c9, c10])) = some y1 := hf 1 _ rfl
    have f2 : DataW.trod enc Tryd.prog w base spare held m 24 (List.take (Tryd.prog.cellsOf 24) (List.drop 2 [c0, c1, c2, c3, c4, c5, c6, c7, c8, c9, c10])) = some y2 := hf 2 _ rfl
    have f3 : DataW.trod enc Tryd.prog w base spare held m 3 (List.take (Tryd.prog.cellsOf 3) (List.drop 7 [c0, c1, c2, c3, c4, c5, c6, c7, c8, c9, c10])) = some y3 := hf 3 _ rfl
    have f4 : DataW.trod enc Tryd.prog w base spare held m 3 (List.take (Tryd.prog.cellsOf 3) (List.drop 8 [c0, c1, c2, c3, c4, c5, c6, c7, c8, c9, c10])) = some y4 := hf 4 _ rfl
    have f5 : DataW.trod enc Tryd.prog w base spare held m 25 (List.take (Tryd.prog.cellsOf 25) (List.drop 9 [c0, c1, c2, c3, c4, c5, c6, c7, c8, c9, c10])) = some y5 := hf 5 _ rfl
    have f6 : DataW.trod enc Tryd.prog w base spare held m 3 (List.take (Tryd.prog.cellsOf 3) (List.drop 10 [c0, c1, c2, c3, c4, c5, c6, c7, c8, c9, c10])) = some y6 := hf 6 _ rfl
    simp only [e1, e2, e3, List.drop_zero, List.drop_succ_cons, List.take_succ_cons, List.take_zero] at f0 f1 f2 f3 f4 f5 f6
    obtain ⟨kind, ha, _, wa⟩ := DataW.trod_int Tryd.underlying3 f0
    obtain ⟨node, hb, _, wb⟩ := DataW.trod_int Tryd.underlying3 f1
    obtain ⟨sess, req, ck, key, val, hcl, wc, wd, we⟩ := call_open f2
    obtain ⟨at_, hd, _, wf⟩ := DataW.trod_int Tryd.underlying3 f3
    obtain ⟨nn, hn, _, wn⟩ := DataW.trod_int Tryd.underlying3 f4
    obtain ⟨keep, hk⟩ := keep_open f5
    obtain ⟨tear, ht, _, wt⟩ := DataW.trod_int Tryd.underlying3 f6
    simp only [List.cons.injEq, and_true] at ha hb hcl hd hn ht
    obtain ⟨h2, h3, h4, h5, h6⟩ := hcl
    refine ⟨⟨kind, node, sess, req, ck, key.data.toList, val.data.toList, at_, nn, keep, tear⟩, c9, ?_, ⟨i64_of wa, i64_of wb, i64_of wc, i64_of wd, i64_of we, i64_of wf, i64_of wn, i64_of wt⟩, hk⟩
    unfold Stp.cells Str
    rw [ha, hb, h2, h3, h4, h5, h6, hd, hn, ht]
theorem step_open {v : Value} {d : DataW H} {p : List MemPlace} (h : DataW.Trod enc Tryd.prog w base spare held 27 v d p) : ∃ (s : Stp) (u : Value), v = .agg (s.cells u).toArray ∧ Row1 w u (bools s.keep) ∧ Fit s := by
  obtain ⟨fuel, hf⟩ := h
  obtain ⟨s, u, hcs, hfit, hr⟩ := step_cells hf
  refine ⟨s, u, ?_, hr, hfit⟩
  cases v with
  | agg vs => simp only [Value.cells] at hcs; rw [← hcs]
  | _ => simp [Value.cells, Stp.cells] at hcs
end
end Go.Proofs.YtcocmljollnpdaaDoor
