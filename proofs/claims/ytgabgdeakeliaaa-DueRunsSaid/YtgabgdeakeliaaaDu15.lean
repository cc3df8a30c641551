/- due: DueRuns: a step as it is handed in; the law's own list. -/
import Derived.Test.YtgabgdeakeliaaaDu13
namespace Go.Proofs.Ytgabgdeakeliaaa
open Go.RowKit Go.Dm Go.ChangeShapes Go.WideShapes Go.ChangeAt
set_option linter.unusedVariables false
set_option linter.unusedSimpArgs false

structure Opn where
  k : Int
  kind : Int
  num : Int
  node : Int
  at_ : Int
def Opn.cells (o : Opn) : List Value := [.int .i64 o.k, .int .i64 o.kind, .int .u64 o.num, .int .i64 o.node, .int .i64 o.at_]
def Opn.nm (o : Opn) : Nm := ⟨o.kind, o.num, o.node⟩
def Opn.ent (o : Opn) : Ent := ⟨o.at_, o.kind, o.num, o.node⟩
def o0 : Opn := ⟨0, 0, 0, 0, 0⟩
instance : Nonempty Opn := ⟨o0⟩

section
variable {H : Type} {enc : TypeId × Value → H} {w : World} {base : Nat} {spare : Nat → Bool} {held : Bool}
theorem opn_open {n : Nat} {cs : List Value} {y : DataW H × List MemPlace} (h : DataW.trod enc Try.prog w base spare held n 44 cs = some y) : ∃ o : Opn, cs = o.cells ∧ True := by
  obtain ⟨ys, m, _, _, hl, hyl, hf⟩ := DataW.trod_struct Try.underlying44 h
  have hc : Try.prog.cellsOf 44 = 5 := by kernel_rfl
  have e2 : Try.prog.cellsOf 3 = 1 := by kernel_rfl
  have e3 : Try.prog.cellsOf 30 = 2 := by kernel_rfl
  rw [hc] at hl
  match cs, hl, ys, hyl with
  | [c0, c1, c2, c3, c4], _, [y0, y1, y2, y3], _ =>
    have f0 : DataW.trod enc Try.prog w base spare held m 3 (List.take (Try.prog.cellsOf 3) (List.drop 0 [c0, c1, c2, c3, c4])) = some y0 := hf 0 _ rfl
    have f1 : DataW.trod enc Try.prog w base spare held m 3 (List.take (Try.prog.cellsOf 3) (List.drop 1 [c0, c1, c2, c3, c4])) = some y1 := hf 1 _ rfl
    have f2 : DataW.trod enc Try.prog w base spare held m 30 (List.take (Try.prog.cellsOf 30) (List.drop 2 [c0, c1, c2, c3, c4])) = some y2 := hf 2 _ rfl
    have f3 : DataW.trod enc Try.prog w base spare held m 3 (List.take (Try.prog.cellsOf 3) (List.drop 4 [c0, c1, c2, c3, c4])) = some y3 := hf 3 _ rfl
    simp only [e2, e3, List.drop_zero, List.drop_succ_cons, List.take_succ_cons, List.take_zero] at f0 f1 f2 f3
    obtain ⟨a, ha, _, _⟩ := DataW.trod_int Try.underlying3 f0
    obtain ⟨b, hb, _, _⟩ := DataW.trod_int Try.underlying3 f1
    obtain ⟨c, d, hcd, _, _⟩ := tid_open f2
    obtain ⟨e, he, _, _⟩ := DataW.trod_int Try.underlying3 f3
    simp only [List.cons.injEq, and_true] at ha hb hcd he
    exact ⟨⟨a, b, c, d, e⟩, by rw [ha, hb, hcd.1, hcd.2, he]; rfl, trivial⟩
theorem opns_open {a : Option Addr} {len cap : Nat} {d : DataW H} {p : List MemPlace} (h : DataW.Trod enc Try.prog w base spare held 42 (.slice a len cap) d p) :
    ∃ L : List Opn, ArgRow w 5 Opn.cells a len L ∧ (∀ x ∈ L, True) ∧ len ≤ maxLen :=
  arg_open (k := 5) Try.underlying42 (by kernel_rfl) (by decide) (fun _ => rfl) (fun _ _ _ h => opn_open h) h
end

theorem ArgRow.opAt {w w' : World} {a : Option Addr} {n : Nat} {L : List Opn} (h : ArgRow w 5 Opn.cells a n L) (hb : Below w.heap.size w w') {i : Nat} {e : Opn} (hi : L[i]? = some e) :
    ∃ b o, a = some ⟨b, o, none⟩ ∧ b < w.heap.size ∧ w'.cell? ⟨b, o + i * 5, none⟩ = some (.int .i64 e.k) ∧ w'.cell? ⟨b, o + i * 5 + 1, none⟩ = some (.int .i64 e.kind) ∧ w'.cell? ⟨b, o + i * 5 + 2, none⟩ = some (.int .u64 e.num) ∧ w'.cell? ⟨b, o + i * 5 + 3, none⟩ = some (.int .i64 e.node) ∧ w'.cell? ⟨b, o + i * 5 + 4, none⟩ = some (.int .i64 e.at_) := by
  have hl := (List.getElem?_eq_some_iff.1 hi).1
  obtain ⟨b, o, ha, hc⟩ := h.row (by rw [← h.len]; omega)
  have h0 : w.cell? ⟨b, o + (i * 5 + 0), none⟩ = some (.int .i64 e.k) := hc i e hi 0 (by omega)
  have hlt : b < w.heap.size := World.block_lt_of_cell? w _ h0
  have key : ∀ j, j < 5 → w'.cell? ⟨b, o + i * 5 + j, none⟩ = e.cells[j]? := fun j hj => by
    rw [World.cell?_of_block (w := w) (hb.block _ hlt), Nat.add_assoc]; exact hc i e hi j hj
  exact ⟨b, o, ha, hlt, key 0 (by omega), key 1 (by omega), key 2 (by omega), key 3 (by omega), key 4 (by omega)⟩

/-- The queue and the law's own list of the same entries. -/
structure St (w : World) (k qb : Nat) (v : Value) (L Q : List Ent) : Prop where
  ex : ∃ F, QIs w qb F Q ∧ (∀ c, F c → k ≤ c) ∧ ∀ c, v.ownBlock = some c → ¬ F c
  own : w.ownsRow 0 32 4 v L.length (flat L)
  ob : ∀ c, v.ownBlock = some c → k ≤ c
  perm : Q.Perm L

theorem own_lt {w : World} {v : Value} {n : Nat} {xs : List Value} (h : w.ownsRow 0 32 4 v n xs) {c : Nat} (hc : v.ownBlock = some c) : c < w.heap.size := by
  rcases h.2 with ⟨h1, _⟩ | ⟨g, cap, cur, hv, _, hh, _⟩
  · rw [h1] at hc; cases hc
  · rw [hv] at hc
    have : g = c := by simpa [Value.ownBlock] using hc
    rw [← this]
    exact blk_lt hh
theorem St.names {w : World} {k qb : Nat} {v : Value} {L Q : List Ent} (h : St w k qb v L Q) : (L.map Ent.nm).Nodup := by
  obtain ⟨⟨F, hq, _⟩, _, _, hp⟩ := h
  exact (hp.map Ent.nm).nodup_iff.1 hq.names
/-- What is made anew leaves both as they are. -/
theorem St.quiet {w w' : World} {k qb : Nat} {v : Value} {L Q : List Ent} (h : St w k qb v L Q) (ho : Only (fun _ => False) w w') : St w' k qb v L Q := by
  obtain ⟨⟨F, hq, h1, h2⟩, ho', hb, hp⟩ := h
  exact ⟨⟨F, hq.only ho (fun _ h _ => h), h1, h2⟩, ownsRow_only ho' ho (fun _ _ h => h), hb, hp⟩
/-- The queue is turned; the list stands. -/
theorem St.queue {w w' : World} {k qb : Nat} {v : Value} {L Q' : List Ent} {F : Nat → Prop} (hk : k ≤ w.heap.size) (h1 : ∀ c, F c → k ≤ c) (h2 : ∀ c, v.ownBlock = some c → ¬ F c) (hown : w.ownsRow 0 32 4 v L.length (flat L)) (hb : ∀ c, v.ownBlock = some c → k ≤ c)
    (hq : QIs w' qb (fun c => F c ∨ w.heap.size ≤ c) Q') (ho : Only F w w') :
    w'.ownsRow 0 32 4 v L.length (flat L) ∧ (∃ F, QIs w' qb F Q' ∧ (∀ c, F c → k ≤ c) ∧ ∀ c, v.ownBlock = some c → ¬ F c) := by
  refine ⟨ownsRow_only hown ho h2, _, hq, fun c hc => hc.elim (h1 c) (Nat.le_trans hk), fun c hc h => ?_⟩
  rcases h with h | h
  · exact h2 c hc h
  · exact absurd (own_lt hown hc) (Nat.not_lt.2 h)
/-- The list is turned; the queue stands. -/
theorem St.list {w w' : World} {k qb : Nat} {v v' : Value} {L' Q : List Ent} {S : Nat → Prop} (hk : k ≤ w.heap.size) (hq : ∃ F, QIs w qb F Q ∧ (∀ c, F c → k ≤ c) ∧ ∀ c, v.ownBlock = some c → ¬ F c) (hv : ∀ c, v.ownBlock = some c → k ≤ c)
    (ho : Only S w w') (hs : ∀ c, S c → v.ownBlock = some c) (hb : ∀ c, v'.ownBlock = some c → v.ownBlock = some c ∨ w.heap.size ≤ c) (hown : w'.ownsRow 0 32 4 v' L'.length (flat L')) (hp : Q.Perm L') : St w' k qb v' L' Q := by
  obtain ⟨F, hq, h1, h2⟩ := hq
  have hq' := hq.bound.only ho (fun c hc hf => h2 c (hs c hc) hf.1)
  refine ⟨⟨_, hq', fun c hc => h1 c hc.1, fun c hc hf => ?_⟩, hown, fun c hc => ?_, hp⟩
  · rcases hb c hc with h | h
    · exact h2 c h hf.1
    · exact absurd hf.2 (Nat.not_lt.2 h)
  · rcases hb c hc with h | h
    · exact hv c h
    · exact Nat.le_trans hk h

/-! What the law's own loops find. -/
def Found (L : List Ent) (n : Nm) (k : Nat) (v : Int) : Prop :=
  (v = -1 ∧ ∀ (j : Nat) (x : Ent), j < k → L[j]? = some x → x.nm ≠ n) ∨ ∃ (a : Nat) (x : Ent), v = (a : Int) ∧ a < k ∧ L[a]? = some x ∧ x.nm = n
theorem Found.start (L : List Ent) (n : Nm) : Found L n 0 (-1) := .inl ⟨rfl, fun j x h => absurd h (Nat.not_lt_zero j)⟩
theorem Found.skip {L : List Ent} {n : Nm} {k : Nat} {v : Int} (h : Found L n k v) {x : Ent} (hx : L[k]? = some x) (hn : x.nm ≠ n) : Found L n (k + 1) v := by
  rcases h with ⟨h1, h2⟩ | ⟨a, y, h1, h2, h3⟩
  · refine .inl ⟨h1, fun j y hj hy => ?_⟩
    by_cases hjk : j = k
    · subst hjk; rw [hx] at hy; injection hy with hy; rw [← hy]; exact hn
    · exact h2 j y (by omega) hy
  · exact .inr ⟨a, y, h1, by omega, h3⟩
theorem Found.take {L : List Ent} {n : Nm} {k : Nat} {x : Ent} (hx : L[k]? = some x) (hn : x.nm = n) : Found L n (k + 1) (k : Int) := .inr ⟨k, x, rfl, by omega, hx, hn⟩
theorem Found.done {L : List Ent} {n : Nm} {v : Int} (h : Found L n L.length v) : (v = -1 ∧ ∀ x ∈ L, x.nm ≠ n) ∨ ∃ (a : Nat) (x : Ent), v = (a : Int) ∧ L[a]? = some x ∧ x.nm = n := by
  rcases h with ⟨h1, h2⟩ | ⟨a, y, h1, h2, h3⟩
  · refine .inl ⟨h1, fun x hx => ?_⟩
    obtain ⟨j, hj⟩ := List.mem_iff_getElem?.1 hx
    exact h2 j x (List.getElem?_eq_some_iff.1 hj).1 hj
  · exact .inr ⟨a, y, h1, h3⟩

def Best (L : List Ent) (now : Int) (k : Nat) (v : Int) : Prop :=
  (v = -1 ∧ ∀ (j : Nat) (x : Ent), j < k → L[j]? = some x → now < x.at_) ∨
    ∃ (a : Nat) (x : Ent), v = (a : Int) ∧ a < k ∧ L[a]? = some x ∧ x.at_ ≤ now ∧ ∀ (j : Nat) (y : Ent), j < k → L[j]? = some y → y.at_ ≤ now → y.bef x = false
theorem Best.start (L : List Ent) (now : Int) : Best L now 0 (-1) := .inl ⟨rfl, fun j x h => absurd h (Nat.not_lt_zero j)⟩
theorem Best.skip {L : List Ent} {now : Int} {k : Nat} {v : Int} (h : Best L now k v) {x : Ent} (hx : L[k]? = some x) (hn : now < x.at_) : Best L now (k + 1) v := by
  rcases h with ⟨h1, h2⟩ | ⟨a, y, h1, h2, h3, h4, h5⟩
  · refine .inl ⟨h1, fun j y hj hy => ?_⟩
    by_cases hjk : j = k
    · subst hjk; rw [hx] at hy; injection hy with hy; rw [← hy]; exact hn
    · exact h2 j y (by omega) hy
  · refine .inr ⟨a, y, h1, by omega, h3, h4, fun j z hj hz hzn => ?_⟩
    by_cases hjk : j = k
    · subst hjk; rw [hx] at hz; injection hz with hz; subst hz; omega
    · exact h5 j z (by omega) hz hzn
theorem Best.first {L : List Ent} {now : Int} {k : Nat} (h2 : ∀ (j : Nat) (x : Ent), j < k → L[j]? = some x → now < x.at_) {x : Ent} (hx : L[k]? = some x) (hn : x.at_ ≤ now) : Best L now (k + 1) (k : Int) := by
  refine .inr ⟨k, x, rfl, by omega, hx, hn, fun j z hj hz hzn => ?_⟩
  by_cases hjk : j = k
  · subst hjk; rw [hx] at hz; injection hz with hz; subst hz; exact bef_irrefl _
  · have := h2 j z (by omega) hz; omega
theorem Best.more {L : List Ent} {now : Int} {k a : Nat} {y : Ent} (h3 : L[a]? = some y) (ha : a < k) (h4 : y.at_ ≤ now) (h5 : ∀ (j : Nat) (z : Ent), j < k → L[j]? = some z → z.at_ ≤ now → z.bef y = false) {x : Ent} (hx : L[k]? = some x) (hn : x.at_ ≤ now) :
    (x.bef y = true → Best L now (k + 1) (k : Int)) ∧ (x.bef y = false → Best L now (k + 1) (a : Int)) := by
  constructor
  · intro hb
    refine .inr ⟨k, x, rfl, by omega, hx, hn, fun j z hj hz hzn => ?_⟩
    by_cases hjk : j = k
    · subst hjk; rw [hx] at hz; injection hz with hz; subst hz; exact bef_irrefl _
    · exact bef_trans (h5 j z (by omega) hz hzn) (bef_asymm hb)
  · intro hb
    refine .inr ⟨a, y, rfl, by omega, h3, h4, fun j z hj hz hzn => ?_⟩
    by_cases hjk : j = k
    · subst hjk; rw [hx] at hz; injection hz with hz; subst hz; exact hb
    · exact h5 j z (by omega) hz hzn
theorem Best.done {L : List Ent} {now : Int} {v : Int} (h : Best L now L.length v) : (v = -1 ∧ ∀ x ∈ L, now < x.at_) ∨ ∃ (a : Nat) (x : Ent), v = (a : Int) ∧ L[a]? = some x ∧ x.at_ ≤ now ∧ ∀ y ∈ L, y.at_ ≤ now → y.bef x = false := by
  rcases h with ⟨h1, h2⟩ | ⟨a, y, h1, h2, h3, h4, h5⟩
  · refine .inl ⟨h1, fun x hx => ?_⟩
    obtain ⟨j, hj⟩ := List.mem_iff_getElem?.1 hx
    exact h2 j x (List.getElem?_eq_some_iff.1 hj).1 hj
  · refine .inr ⟨a, y, h1, h3, h4, fun z hz hzn => ?_⟩
    obtain ⟨j, hj⟩ := List.mem_iff_getElem?.1 hz
    exact h5 j z (List.getElem?_eq_some_iff.1 hj).1 hj hzn
/-- What Next gives is what the law's own loop finds. -/
theorem best_is {L Q : List Ent} {now : Int} (hp : Q.Perm L) {x y : Ent} (hx : x ∈ Q) (hxn : x.at_ ≤ now) (hxl : ∀ z ∈ Q, z.bef x = false) (hy : y ∈ L) (hyn : y.at_ ≤ now) (hyl : ∀ z ∈ L, z.at_ ≤ now → z.bef y = false) : x = y :=
  bef_total (hyl x (hp.subset hx) hxn) (hxl y (hp.symm.subset hy))

theorem erase_filter {L : List Ent} {a : Nat} {x : Ent} (hn : (L.map Ent.nm).Nodup) (h : L[a]? = some x) : (L.filter fun y => decide (y.nm ≠ x.nm)).Perm (L.eraseIdx a) := by
  have h2 := ((erase_perm h).map Ent.nm).nodup_iff.1 hn
  rw [List.map_cons, List.nodup_cons] at h2
  have h3 : ((L.eraseIdx a).filter fun y => decide (y.nm ≠ x.nm)) = L.eraseIdx a := List.filter_eq_self.2 fun y hy => decide_eq_true fun e => h2.1 (by rw [← e]; exact List.mem_map.2 ⟨y, hy, rfl⟩)
  have h1 := (erase_perm h).filter fun y => decide (y.nm ≠ x.nm)
  rw [List.filter_cons, h3] at h1
  simp only [ne_eq, not_true_eq_false, decide_false, Bool.false_eq_true, if_false] at h1
  exact h1
/-- What a setting leaves is what the own list holds then. -/
theorem set_found {L Q Q' : List Ent} {o : Opn} {a : Nat} {x : Ent} (hp : Q.Perm L) (hn : (Q.map Ent.nm).Nodup) (h : (∃ x M, x.nm = o.ent.nm ∧ Q.Perm (x :: M) ∧ Q'.Perm (o.ent :: M)) ∨ ((∀ x ∈ Q, x.nm ≠ o.ent.nm) ∧ Q'.Perm (o.ent :: Q)))
    (ha : L[a]? = some x) (hx : x.nm = o.nm) : Q'.Perm (L.set a o.ent) := by
  have hl : a < L.length := (List.getElem?_eq_some_iff.1 ha).1
  have h1 : (L.set a o.ent)[a]? = some o.ent := by simp [hl]
  have h2 := erase_perm h1
  rw [erase_set] at h2
  have h3 := set_keys hp hn h
  have h4 := erase_filter ((hp.map Ent.nm).nodup_iff.1 hn) ha
  have e : x.nm = o.ent.nm := hx
  rw [e] at h4
  exact h3.trans ((List.perm_append_singleton o.ent _).trans ((h4.cons _).trans h2.symm))
theorem set_new {L Q Q' : List Ent} {o : Opn} (hp : Q.Perm L) (hn : (Q.map Ent.nm).Nodup) (h : (∃ x M, x.nm = o.ent.nm ∧ Q.Perm (x :: M) ∧ Q'.Perm (o.ent :: M)) ∨ ((∀ x ∈ Q, x.nm ≠ o.ent.nm) ∧ Q'.Perm (o.ent :: Q)))
    (ha : ∀ x ∈ L, x.nm ≠ o.nm) : Q'.Perm (L ++ [o.ent]) := by
  have h3 := set_keys hp hn h
  have e : (L.filter fun y => decide (y.nm ≠ o.ent.nm)) = L := List.filter_eq_self.2 (fun y hy => decide_eq_true (ha y hy))
  rw [e] at h3
  exact h3
/-- What is taken out by its name is what the own list loses. -/
theorem out_found {L Q Q' : List Ent} {a : Nat} {x y : Ent} (hp : Q.Perm L) (hn : (Q.map Ent.nm).Nodup) (h : Q.Perm (y :: Q')) (ha : L[a]? = some x) (hxy : y.nm = x.nm) : Q'.Perm (L.eraseIdx a) := by
  have h1 := (hp.symm.trans h).symm.trans (erase_perm ha)
  have hyL : y ∈ L := hp.subset (h.symm.subset List.mem_cons_self)
  obtain ⟨j, hj⟩ := List.mem_iff_getElem?.1 hyL
  have := nm_at_inj ((hp.map Ent.nm).nodup_iff.1 hn) hj ha hxy
  subst this
  rw [hj] at ha
  injection ha with ha
  subst ha
  exact (List.perm_cons y).1 h1
theorem row_slice {w : World} {v : Value} {n : Nat} {xs : List Value} (h : w.ownsRow 0 32 4 v n xs) : ∃ ad cap, v = .slice ad n cap := by
  rcases h.2 with ⟨h1, h0⟩ | ⟨g, cap, cur, hv, _⟩
  · exact ⟨none, 0, by rw [h0]; exact h1⟩
  · exact ⟨_, _, hv⟩
theorem eraseIdx_split (L : List Ent) (a : Nat) : L.eraseIdx a = L.take a ++ L.drop (a + 1) := List.eraseIdx_eq_take_drop_succ L a
/-- The cells of a part of a row. -/
theorem part_cells {w : World} {g cap : Nat} {M : List Ent} {n : Nat} (h : w.ownsRow 0 32 4 (.slice (some ⟨g, 0, none⟩) n cap) n (flat M)) (lo : Nat) (N : List Ent) (hN : ∀ i e, N[i]? = some e → M[lo + i]? = some e) :
    ∀ j u, (flat N)[j]? = some u → w.cell? ((⟨g, lo * 4, none⟩ : Addr).add j) = some u := fun j u hj => by
  have hl : j < (flat N).length := (List.getElem?_eq_some_iff.1 hj).1
  rw [flat_length] at hl
  obtain ⟨q, r, hr, rfl⟩ : ∃ q r, r < 4 ∧ j = q * 4 + r := ⟨j / 4, j % 4, by omega, by omega⟩
  have hq : N[q]? = some (N[q]'(by omega)) := List.getElem?_eq_getElem (by omega)
  have hm := hN q _ hq
  have hml := (List.getElem?_eq_some_iff.1 hm).1
  rw [flat_at hq r hr] at hj
  have hlen : n * 4 = M.length * 4 := by rw [← h.1, flat_length]
  rw [add_none, show lo * 4 + (q * 4 + r) = (lo + q) * 4 + r by omega, h.cellAt ((lo + q) * 4 + r) (by omega), flat_at hm r hr]
  exact hj
theorem one_cells (M : List Ent) : ∀ u ∈ flat M, u.oneCell' = true := fun u hu => by
  unfold flat at hu
  obtain ⟨e, _, he⟩ := List.mem_flatMap.1 hu
  simp [Ent.cells] at he
  rcases he with rfl | rfl | rfl | rfl <;> rfl
theorem flat_append (L M : List Ent) : flat (L ++ M) = flat L ++ flat M := by unfold flat; rw [List.flatMap_append]
end Go.Proofs.Ytgabgdeakeliaaa
