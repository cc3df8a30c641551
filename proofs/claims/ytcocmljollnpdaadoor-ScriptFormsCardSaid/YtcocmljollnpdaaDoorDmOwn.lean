/- A slice that a call has made itself: small laws on what it owns. -/
import Derived.Test.YtcocmljollnpdaaDoorDmMem
import Derived.Maps.AppendAt
namespace Go.Dm
open Go.RowKit

theorem own_blk {w : World} {B : Nat} {e : TypeId} {size n : Nat} {v : Value} {xs : List Value} (h : w.ownsRow B e size v n xs) {c : Nat} (hc : v.ownBlock = some c) : B ≤ c ∧ c < w.heap.size := by
  rcases h.2 with ⟨h1, _⟩ | ⟨g, cap, cur, hv, hB, hh, _⟩
  · rw [h1] at hc; cases hc
  · rw [hv] at hc
    have : g = c := by simpa [Value.ownBlock] using hc
    rw [← this]
    exact ⟨hB, blk_lt hh⟩
theorem own_slice {w : World} {B : Nat} {e : TypeId} {size n : Nat} {v : Value} {xs : List Value} (h : w.ownsRow B e size v n xs) : ∃ ad cap, v = .slice ad n cap := by
  rcases h.2 with ⟨h1, h0⟩ | ⟨g, cap, cur, hv, _⟩
  · exact ⟨none, 0, by rw [h0]; exact h1⟩
  · exact ⟨_, _, hv⟩
theorem own_nil (w : World) (B : Nat) (e : TypeId) (size : Nat) : w.ownsRow B e size (.slice none 0 0) 0 [] := ⟨by simp, .inl ⟨rfl, rfl⟩⟩
theorem own_some {w : World} {B : Nat} {e : TypeId} {size n : Nat} {v : Value} {xs : List Value} (h : w.ownsRow B e size v n xs) (hn : 0 < n) :
    ∃ g cap cur, v = .slice (some ⟨g, 0, none⟩) n cap ∧ B ≤ g ∧ w.heap[g]? = some (.cells cur e (0, 0)) ∧ n ≤ cap ∧ cap ≤ maxLen ∧ cur.size = cap * size := by
  rcases h.2 with ⟨_, h0⟩ | ⟨g, cap, cur, hv, hB, hg, h1, h2, h3, _⟩
  · omega
  · exact ⟨g, cap, cur, hv, hB, hg, h1, h2, h3⟩
theorem Only.newS {S : Nat → Prop} {w w1 w2 : World} (h0 : Only (fun _ => False) w w1) (h : Only S w1 w2) (hk : ∀ c, S c → w.heap.size ≤ c) : Only (fun _ => False) w w2 :=
  h0.trans h fun c hc h => absurd (Nat.lt_of_lt_of_le hc (hk c h)) (Nat.lt_irrefl _)
/-- What an append to it leaves. -/
theorem own_grown {w w1 w2 : World} {B : Nat} {e : TypeId} {size n : Nat} {v : Value} {xs : List Value} (h0 : Only (fun _ => False) w w1) (h : w1.ownsRow B e size v n xs) (hB : w.heap.size ≤ B) (hg : w1.grownBy w2 v.ownBlock) : Only (fun _ => False) w w2 :=
  Only.newS h0 (Only.of_grown hg) fun c hc => Nat.le_trans hB (own_blk h hc.symm).1

/-- m[k] = x, in a literal. -/
theorem wpl_insert {P : Program} {K : TypeId} {α : Type} [DecidableEq α] {ops : Array Oper} {Q : Exit → Act → World → Prop} {rest : List Oper} {o : Oper} {a : Act} {w : World} (hg : o.guard = none) (hd : o.dst = none) (t : TypeId) (m k x : Operand) (hop : o.op = .insert t m k x)
    (E : KE P K α) (e : TypeId) (ht : P.underlying t = some (.map K e)) (b : Nat) (l : List (α × Value)) (h : MapIs E w b l) (hm : a.eval m = .map (some b)) (key : α) (hk : a.eval k = E.enc key) (hok : E.ok key) (v : Value) (hx : a.eval x = v)
    (hK : ∀ ob, MapIs E (setBlk w b ob) b (aput l key v) → wpList P ops Q rest a (setBlk w b ob)) : wpList P ops Q (o :: rest) a w := by
  refine wpList_plain hg fun K' hK' => ?_
  obtain ⟨ob, hrun, hmap⟩ := h.update ht key hok v
  unfold Oper.wp execOp
  simp only [hop, hm, hk, hx, bind, Sem.run_bind', hrun, Result.andThen_ok, pure, Sem.run]
  simp only [Oper.upon, hd, Act.put]
  exact hK' _ _ (hK _ hmap)
theorem MapIs.made {P : Program} {K : TypeId} {α : Type} (E : KE P K α) (w : World) : MapIs E (w.alloc (.map #[] 0)) w.heap.size [] :=
  ⟨#[], 0, blk_alloc_new, rfl, List.Pairwise.nil, fun _ h => by simp at h, by simp [akeys], fun _ h => by simp [akeys] at h⟩

/-- A slice of one-cell values, wherever it lies. -/
def Row1 (w : World) (v : Value) (xs : List Value) : Prop :=
  ∃ a cap, v = .slice a xs.length cap ∧ xs.length ≤ cap ∧ cap ≤ maxLen ∧ (0 < xs.length → ∃ b o, a = some ⟨b, o, none⟩ ∧ b < w.heap.size ∧ ∀ i x, xs[i]? = some x → w.cell? ⟨b, o + i, none⟩ = some x)
theorem Row1.nil (w : World) : Row1 w (.slice none 0 0) [] := ⟨none, 0, rfl, Nat.le_refl _, by decide, fun h => absurd h (Nat.lt_irrefl _)⟩
theorem Row1.only {S : Nat → Prop} {w w' : World} {v : Value} {xs : List Value} (h : Row1 w v xs) (ho : Only S w w') (hs : ∀ b o n c, v = .slice (some ⟨b, o, none⟩) n c → ¬ S b) : Row1 w' v xs := by
  obtain ⟨a, cap, hv, hl, hm, h⟩ := h
  refine ⟨a, cap, hv, hl, hm, fun hn => ?_⟩
  obtain ⟨b, o, ha, hb, hc⟩ := h hn
  refine ⟨b, o, ha, Nat.lt_of_lt_of_le hb ho.size, fun i x hx => ?_⟩
  rw [World.cell?_of_block (w := w) (ho.block b hb (hs b o _ _ (by rw [hv, ha])))]
  exact hc i x hx
theorem Row1.new {w w' : World} {v : Value} {xs : List Value} (h : Row1 w v xs) (ho : Only (fun _ => False) w w') : Row1 w' v xs := h.only ho (fun _ _ _ _ _ => id)
theorem Row1.of_own {w : World} {B : Nat} {e : TypeId} {n : Nat} {v : Value} {xs : List Value} (h : w.ownsRow B e 1 v n xs) : Row1 w v xs := by
  have hl := h.1
  rw [Nat.mul_one] at hl
  rcases h.2 with ⟨h1, h0⟩ | ⟨g, cap, cur, hv, hB, hg, h1, h2, h3, h4⟩
  · have : xs = [] := List.eq_nil_of_length_eq_zero (by omega)
    subst this
    rw [h1]
    exact Row1.nil w
  · refine ⟨some ⟨g, 0, none⟩, cap, by rw [hl]; exact hv, by omega, h2, fun _ => ⟨g, 0, rfl, blk_lt hg, fun i x hx => ?_⟩⟩
    rw [Nat.zero_add, cell_of_blk hg i]
    rw [← h4, List.getElem?_take] at hx
    split at hx
    · simpa using hx
    · cases hx
theorem Row1.at {w : World} {a : Option Addr} {n cap : Nat} {xs : List Value} (h : Row1 w (.slice a n cap) xs) {i : Nat} {x : Value} (hx : xs[i]? = some x) :
    n = xs.length ∧ ∃ b o, a = some ⟨b, o, none⟩ ∧ b < w.heap.size ∧ w.cell? ⟨b, o + i, none⟩ = some x := by
  obtain ⟨a', cap', hv, _, _, h⟩ := h
  injection hv with h1 h2 h3
  subst h1
  have := (List.getElem?_eq_some_iff.1 hx).1
  obtain ⟨b, o, ha, hb, hc⟩ := h (by omega)
  exact ⟨h2, b, o, ha, hb, hc i x hx⟩
/-- The block and the place of a slice that is not empty. -/
theorem Row1.addr {w : World} {v : Value} {xs : List Value} (h : Row1 w v xs) (hn : 0 < xs.length) :
    ∃ b o cap, v = .slice (some ⟨b, o, none⟩) xs.length cap ∧ xs.length ≤ cap ∧ cap ≤ maxLen ∧ b < w.heap.size ∧ ∀ i x, xs[i]? = some x → w.cell? ⟨b, o + i, none⟩ = some x := by
  obtain ⟨a, cap, hv, hl, hm, h⟩ := h
  obtain ⟨b, o, ha, hb, hc⟩ := h hn
  exact ⟨b, o, cap, by rw [hv, ha], hl, hm, hb, hc⟩
end Go.Dm
