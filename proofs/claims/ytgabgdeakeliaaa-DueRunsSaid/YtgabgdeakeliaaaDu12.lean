/- due: an entry as it is handed in. -/
import Derived.Test.YtgabgdeakeliaaaDu11
import Derived.Deep.Slices
import Derived.WalkKit
import Derived.ProofKit
import Derived.OpenShut
import Derived.ShutString
import Derived.ChangeOld
import Derived.SizedLaws
namespace Go.Proofs.Ytgabgdeakeliaaa
open Go.RowKit Go.Dm Go.ChangeShapes Go.WideShapes Go.ChangeAt

section
variable {H : Type} {enc : TypeId × Value → H} {w : World} {base : Nat} {spare : Nat → Bool} {held : Bool}
theorem tid_open {n : Nat} {cs : List Value} {y : DataW H × List MemPlace} (h : DataW.trod enc Try.prog w base spare held n 30 cs = some y) :
    ∃ a b, cs = [.int .u64 a, .int .i64 b] ∧ (Lit.int .u64 a).wf = true ∧ (Lit.int .i64 b).wf = true := by
  obtain ⟨ys, m, _, _, hl, hyl, hf⟩ := DataW.trod_struct Try.underlying30 h
  have hc : Try.prog.cellsOf 30 = 2 := by kernel_rfl
  have e1 : Try.prog.cellsOf 28 = 1 := by kernel_rfl
  have e2 : Try.prog.cellsOf 3 = 1 := by kernel_rfl
  rw [hc] at hl
  match cs, hl, ys, hyl with
  | [c0, c1], _, [y0, y1], _ =>
    have f0 : DataW.trod enc Try.prog w base spare held m 28 (List.take (Try.prog.cellsOf 28) (List.drop 0 [c0, c1])) = some y0 := hf 0 _ rfl
    have f1 : DataW.trod enc Try.prog w base spare held m 3 (List.take (Try.prog.cellsOf 3) (List.drop 1 [c0, c1])) = some y1 := hf 1 _ rfl
    simp only [e1, e2, List.drop_zero, List.drop_succ_cons, List.take_succ_cons, List.take_zero] at f0 f1
    obtain ⟨a, ha, _, wa⟩ := DataW.trod_int Try.underlying28 f0
    obtain ⟨b, hb, _, wb⟩ := DataW.trod_int Try.underlying3 f1
    simp only [List.cons.injEq, and_true] at ha hb
    exact ⟨a, b, by rw [ha, hb], wa, wb⟩

/-- What an entry that is handed in is good for. -/
structure Ent.Wf (e : Ent) : Prop where
  at_ : (Lit.int .i64 e.at_).wf = true
  kind : (Lit.int .i64 e.kind).wf = true
  num : (Lit.int .u64 e.num).wf = true
  node : (Lit.int .i64 e.node).wf = true

theorem ent_open {n : Nat} {cs : List Value} {y : DataW H × List MemPlace} (h : DataW.trod enc Try.prog w base spare held n 32 cs = some y) : ∃ e : Ent, cs = e.cells ∧ e.Wf := by
  obtain ⟨ys, m, _, _, hl, hyl, hf⟩ := DataW.trod_struct Try.underlying32 h
  have hc : Try.prog.cellsOf 32 = 4 := by kernel_rfl
  have e1 : Try.prog.cellsOf 27 = 1 := by kernel_rfl
  have e2 : Try.prog.cellsOf 3 = 1 := by kernel_rfl
  have e3 : Try.prog.cellsOf 30 = 2 := by kernel_rfl
  rw [hc] at hl
  match cs, hl, ys, hyl with
  | [c0, c1, c2, c3], _, [y0, y1, y2], _ =>
    have f0 : DataW.trod enc Try.prog w base spare held m 3 (List.take (Try.prog.cellsOf 3) (List.drop 0 [c0, c1, c2, c3])) = some y0 := hf 0 _ rfl
    have f1 : DataW.trod enc Try.prog w base spare held m 27 (List.take (Try.prog.cellsOf 27) (List.drop 1 [c0, c1, c2, c3])) = some y1 := hf 1 _ rfl
    have f2 : DataW.trod enc Try.prog w base spare held m 30 (List.take (Try.prog.cellsOf 30) (List.drop 2 [c0, c1, c2, c3])) = some y2 := hf 2 _ rfl
    simp only [e1, e2, e3, List.drop_zero, List.drop_succ_cons, List.take_succ_cons, List.take_zero] at f0 f1 f2
    obtain ⟨a, ha, _, wa⟩ := DataW.trod_int Try.underlying3 f0
    obtain ⟨b, hb, _, wb⟩ := DataW.trod_int Try.underlying27 f1
    obtain ⟨c, d, hcd, wc, wd⟩ := tid_open f2
    simp only [List.cons.injEq, and_true] at ha hb hcd
    exact ⟨⟨a, b, c, d⟩, by rw [ha, hb, hcd.1, hcd.2]; rfl, wa, wb, wc, wd⟩

/-- A slice of structs that is handed in. -/
theorem arg_open {α : Type} [Nonempty α] {cs : α → List Value} {ok : α → Prop} {k : Nat} {t e : TypeId} (ht : Try.prog.underlying t = some (.slice e)) (hk : Try.prog.cellsOf e = k) (h0 : 0 < k) (hs : ∀ x, (cs x).length = k)
    (hone : ∀ (n : Nat) (c : List Value) (y : DataW H × List MemPlace), DataW.trod enc Try.prog w base spare held n e c = some y → ∃ x, c = cs x ∧ ok x)
    {a : Option Addr} {len cap : Nat} {d : DataW H} {p : List MemPlace} (h : DataW.Trod enc Try.prog w base spare held t (.slice a len cap) d p) :
    ∃ L : List α, ArgRow w k cs a len L ∧ (∀ x ∈ L, ok x) ∧ len ≤ maxLen := by
  obtain ⟨fuel, hf⟩ := h
  rcases Go.Deep.open_slice ht hf with ⟨hcs, _⟩ | ⟨x, l, c, m, n, D, Pl, hcs, _, hl, hm, hmm, _, hi⟩
  · simp [Value.cells] at hcs
    obtain ⟨rfl, rfl, rfl⟩ := hcs
    exact ⟨[], ⟨rfl, hs, fun h => absurd h (Nat.lt_irrefl _)⟩, by simp, Nat.zero_le _⟩
  · simp [Value.cells] at hcs
    obtain ⟨rfl, rfl, rfl⟩ := hcs
    have hlm : len ≤ m := by rw [hmm]; split <;> omega
    have hex : ∀ i, ∃ y : α, i < len → ok y ∧ w.cells? base (x.add (i * k)) k = some (cs y) := fun i => by
      by_cases h : i < len
      · obtain ⟨c', h1, h2⟩ := hi i (by omega)
        obtain ⟨y, rfl, hy⟩ := hone _ _ _ h2
        exact ⟨y, fun _ => ⟨hy, by rw [hk] at h1; exact h1⟩⟩
      · exact ⟨Classical.choice inferInstance, fun h' => absurd h' h⟩
    obtain ⟨f, hfx⟩ := Classical.axiomOfChoice hex
    have at_ : ∀ i z, ((List.range len).map f)[i]? = some z → i < len ∧ z = f i := fun i z hz => by
      rw [List.getElem?_map] at hz
      by_cases h : i < len
      · rw [List.getElem?_range h] at hz
        exact ⟨h, by simpa using hz.symm⟩
      · rw [List.getElem?_eq_none (by simp; omega)] at hz
        cases hz
    refine ⟨(List.range len).map f, ⟨by simp, hs, fun hlen => ?_⟩, ?_, Nat.le_trans hl hm⟩
    · have hx : x.spot = none := by
        obtain ⟨_, h1⟩ := hfx 0 hlen
        obtain ⟨_, _, h2⟩ := World.cells?_some h1
        have := h2 0 h0
        have h3 : (cs (f 0))[0]? = some ((cs (f 0))[0]'(by rw [hs]; exact h0)) := List.getElem?_eq_getElem (by rw [hs]; exact h0)
        rw [h3] at this
        simp only [Nat.zero_mul] at this
        have e : (x.add 0).add 0 = x := by simp [Addr.add]
        rw [e] at this
        unfold World.cell? at this
        cases hsp : x.spot with
        | none => rfl
        | some q => rw [hsp] at this; split at this <;> simp at this
      obtain ⟨b, o, s⟩ := x
      dsimp only at hx
      subst hx
      refine ⟨b, o, rfl, fun i z hz j hj => ?_⟩
      obtain ⟨h1, rfl⟩ := at_ i z hz
      obtain ⟨_, _, h2⟩ := World.cells?_some (hfx i h1).2
      have := h2 j hj
      rw [Go.Deep.add_add, add_none] at this
      exact this
    · intro z hz
      obtain ⟨i, hi'⟩ := List.mem_iff_getElem?.1 hz
      obtain ⟨h1, rfl⟩ := at_ i z hi'
      exact (hfx i h1).1
instance : Nonempty Ent := ⟨e0⟩
theorem ents_open {a : Option Addr} {len cap : Nat} {d : DataW H} {p : List MemPlace} (h : DataW.Trod enc Try.prog w base spare held 22 (.slice a len cap) d p) :
    ∃ L : List Ent, ArgRow w 4 Ent.cells a len L ∧ (∀ x ∈ L, x.Wf) ∧ len ≤ maxLen :=
  arg_open (k := 4) Try.underlying22 (by kernel_rfl) (by decide) (fun _ => rfl) (fun _ _ _ h => ent_open h) h
end
end Go.Proofs.Ytgabgdeakeliaaa
