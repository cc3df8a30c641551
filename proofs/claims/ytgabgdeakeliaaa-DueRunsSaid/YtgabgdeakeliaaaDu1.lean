/- due: what lies in memory, and the small functions. -/
import Derived.Test.YtgabgdeakeliaaaProg
import Derived.Test.YtgabgdeakeliaaaDuH
import Derived.Test.YtgabgdeakeliaaaDmMem
import Derived.Outline
import Derived.Lib.Hide
import Derived.Maps.AppendAt
import Derived.Deep.DeepFit
namespace Go.Proofs.Ytgabgdeakeliaaa
open Go.RowKit Go.Dm

def Ent.cells (e : Ent) : List Value := [.int .i64 e.at_, .int .i64 e.kind, .int .u64 e.num, .int .i64 e.node]
def Ent.val (e : Ent) : Value := .agg #[.int .i64 e.at_, .int .i64 e.kind, .int .u64 e.num, .int .i64 e.node]
def Nm.val (n : Nm) : Value := .agg #[.int .i64 n.kind, .int .u64 n.num, .int .i64 n.node]
def flat (l : List Ent) : List Value := l.flatMap Ent.cells

theorem und54 : Try.prog.underlying 54 = some (.struct (Try.prog.fieldsOf 54)) := by kernel_rfl

theorem nm_check (w : World) (em : Bool) (a : Nm) : (Instr.checkKey em 10000 54 a.val).run Try.prog w = .ok () w := by kernel_rfl
theorem nm_equal (w : World) (a b : Nm) : (Op.equal 54 a.val b.val).run Try.prog w = .ok (a.kind == b.kind && (a.num == b.num && a.node == b.node)) w := by
  unfold Op.equal Nm.val Op.maxDepth
  rw [run_equalIn_agg w 9999 54 _ _ (by kernel_rfl) (by kernel_rfl)]
  simp [go_sem]
  by_cases h1 : a.kind = b.kind <;> by_cases h2 : a.num = b.num <;> by_cases h3 : a.node = b.node <;> simp [h1, h2, h3]

theorem nm_inj (a b : Nm) (h : a.val = b.val) : a = b := by
  unfold Nm.val at h
  simp at h
  obtain ⟨h1, h2, h3⟩ := h
  cases a; cases b; simp_all

noncomputable def nmE : KE Try.prog 54 Nm := KE.ofStruct Nm.val (fun _ => True) nm_inj und54 (fun a => ⟨_, rfl⟩) nm_check
  (fun w a b => ⟨_, nm_equal w a b, by
    constructor
    · intro h
      simp only [Bool.and_eq_true, beq_iff_eq] at h
      unfold Nm.val
      rw [h.1, h.2.1, h.2.2]
    · intro h
      have := nm_inj _ _ h
      subst this
      simp⟩)
  (fun a => by simp [Nm.val, Instr.sameBits])

/-- The map says where each stands. -/
def Cons (L : List Ent) (m : List (Nm × Value)) : Prop :=
  (L.map Ent.nm).Nodup ∧ ∀ n v, aget m n = some v ↔ ∃ (i : Nat) (e : Ent), L[i]? = some e ∧ e.nm = n ∧ v = .int .i64 (i : Int)

/-- What lies in memory behind a list's address. -/
structure LRep (w : World) (lb mb : Nat) (v : Value) (L : List Ent) (m : List (Nm × Value)) : Prop where
  head : w.heap[lb]? = some (.cells #[v, .map (some mb)] 50 (0, 0))
  row : w.ownsRow 0 32 4 v L.length (flat L)
  map : MapIs nmE w mb m

set_option maxHeartbeats 4000000 in
set_option maxRecDepth 100000 in
theorem elder_any (a b c d : Int) (w : World) :
    Calls Try.prog 36 #[.agg #[.int .u64 a, .int .i64 b], .agg #[.int .u64 c, .int .i64 d]] w fun e w' => e = .returned (.bool (decide (a < c) || (decide (a = c) && decide (b < d)))) ∧ Only (fun _ => False) w w' := by
  by_cases h1 : a < c
  · go_enter Try.func36, Try.ntmps36
    go_wp2
    go_ret
    exact ⟨by simp [h1], ((Only.refl _ _).alloc _).alloc _⟩
  · by_cases h2 : a = c
    · subst h2
      go_enter Try.func36, Try.ntmps36
      go_wp2
      go_ret
      exact ⟨by simp, ((Only.refl _ _).alloc _).alloc _⟩
    · have h3 : (a == c) = false := by simp [h2]
      go_enter Try.func36, Try.ntmps36
      go_wp2
      go_ret
      exact ⟨by simp [h1, h2], ((Only.refl _ _).alloc _).alloc _⟩

set_option maxHeartbeats 4000000 in
set_option maxRecDepth 100000 in
theorem before_any (a b : Ent) (w : World) :
    Calls Try.prog 37 #[a.val, b.val] w fun e w' => e = .returned (.bool (a.bef b)) ∧ Only (fun _ => False) w w' := by
  obtain ⟨a1, a2, a3, a4⟩ := a
  obtain ⟨b1, b2, b3, b4⟩ := b
  unfold Ent.val Ent.bef
  dsimp only
  by_cases h1 : a1 = b1
  · subst h1
    by_cases h2 : a2 = b2
    · subst h2
      go_enter Try.func37, Try.ntmps37
      go_wp2_with (go_at_call 36; refine (elder_any _ _ _ _ _).mono ?_; rintro e w' ⟨rfl, hw⟩)
      go_ret
      exact ⟨by simp, (((Only.refl _ _).alloc _).alloc _).trans' hw⟩
    · have h3 : (a2 != b2) = true := by simp [h2]
      go_enter Try.func37, Try.ntmps37
      go_wp2
      go_ret
      exact ⟨by simp [h2], ((Only.refl _ _).alloc _).alloc _⟩
  · have h3 : (a1 != b1) = true := by simp [h1]
    go_enter Try.func37, Try.ntmps37
    go_wp2
    go_ret
    exact ⟨by simp [h1], ((Only.refl _ _).alloc _).alloc _⟩

theorem flat_length (L : List Ent) : (flat L).length = L.length * 4 := by
  induction L with
  | nil => rfl
  | cons e L ih => simp [flat, Ent.cells] at *; omega
theorem flat_at {L : List Ent} {i : Nat} {e : Ent} (h : L[i]? = some e) (j : Nat) (hj : j < 4) : (flat L)[i * 4 + j]? = e.cells[j]? := by
  induction L generalizing i with
  | nil => simp at h
  | cons x L ih =>
    cases i with
    | zero =>
      simp at h
      subst h
      unfold flat
      rw [List.flatMap_cons, Nat.zero_mul, Nat.zero_add, List.getElem?_append_left (by simp [Ent.cells]; omega)]
    | succ i =>
      have := ih (i := i) (by simpa using h)
      unfold flat at *
      rw [List.flatMap_cons, List.getElem?_append_right (by simp [Ent.cells]; omega), ← this]
      congr 1
      simp [Ent.cells]; omega

theorem row_some {w : World} {v : Value} {L : List Ent} (h : w.ownsRow 0 32 4 v L.length (flat L)) (hn : 0 < L.length) :
    ∃ ab cap cur, v = .slice (some ⟨ab, 0, none⟩) L.length cap ∧ w.heap[ab]? = some (.cells cur 32 (0, 0)) ∧ L.length ≤ cap ∧ cap ≤ maxLen ∧ cur.size = cap * 4 := by
  rcases h.2 with ⟨_, h0⟩ | ⟨g, cap, cur, hv, _, hg, h1, h2, h3, _⟩
  · omega
  · exact ⟨g, cap, cur, hv, hg, h1, h2, h3⟩

theorem row_cells {w : World} {ab cap : Nat} {L : List Ent} (h : w.ownsRow 0 32 4 (.slice (some ⟨ab, 0, none⟩) L.length cap) L.length (flat L)) {i : Nat} {e : Ent} (hi : L[i]? = some e) :
    w.cell? ⟨ab, i * 4, none⟩ = some (.int .i64 e.at_) ∧ w.cell? ⟨ab, i * 4 + 1, none⟩ = some (.int .i64 e.kind) ∧ w.cell? ⟨ab, i * 4 + 2, none⟩ = some (.int .u64 e.num) ∧ w.cell? ⟨ab, i * 4 + 3, none⟩ = some (.int .i64 e.node) := by
  have hlt : i < L.length := (List.getElem?_eq_some_iff.1 hi).1
  have c : ∀ j, j < 4 → w.cell? ⟨ab, i * 4 + j, none⟩ = e.cells[j]? := fun j hj => by
    rw [h.cellAt (i * 4 + j) (by omega), flat_at hi j hj]
  exact ⟨c 0 (by omega), c 1 (by omega), c 2 (by omega), c 3 (by omega)⟩

set_option maxHeartbeats 4000000 in
set_option maxRecDepth 100000 in
theorem less_any {w : World} {lb mb : Nat} {v : Value} {L : List Ent} {m : List (Nm × Value)} (h : LRep w lb mb v L m) (hn : L.length ≤ 1000) {i k : Nat} {a b : Ent} (hi : L[i]? = some a) (hk : L[k]? = some b) :
    Calls Try.prog 39 #[.pointer (some ⟨lb, 0, none⟩), .int .i64 (i : Int), .int .i64 (k : Int)] w fun e w' => e = .returned (.bool (a.bef b)) ∧ Only (fun _ => False) w w' := by
  have g1 : i < L.length := (List.getElem?_eq_some_iff.1 hi).1
  have g2 : k < L.length := (List.getElem?_eq_some_iff.1 hk).1
  obtain ⟨ab, cap, cur, rfl, _⟩ := row_some h.row (by omega)
  have c0 := cell_of_blk h.head 0
  obtain ⟨i0, i1, i2, i3⟩ := row_cells h.row hi
  obtain ⟨k0, k1, k2, k3⟩ := row_cells h.row hk
  generalize hnn : L.length = n at *
  have q1 : (i : Int) < (n : Int) := by omega
  have q2 : (k : Int) < (n : Int) := by omega
  simp at c0
  clear hi hk hnn h
  go_enter Try.func39, Try.ntmps39
  go_wp2_with fail
  refine wp_region_segR [1,1,1,1,1,1,1,1,1,1,1,1,1,1,2,2] (by kernel_rfl) (by kernel_rfl) ?_
  refine seg_reads 14 (by decide) (by decide) ?_
  simp only [List.take_succ_cons, List.take_zero, List.drop_succ_cons, List.drop_zero]
  iterate 14 (go_big_quiet_step (fail))
  refine wpQuiet_nil ?_
  refine seg_list' _ _ _ _ (by kernel_rfl) ?_
  go_wp2_with (go_at_call 37; refine (before_any a b _).mono ?_; rintro e w' ⟨rfl, hw⟩)
  refine strict_then ?_
  go_wp2
  go_ret
  exact ⟨rfl, (Only.refl _ _).drew.trans' hw⟩

theorem len_any {w : World} {lb mb : Nat} {v : Value} {L : List Ent} {m : List (Nm × Value)} (h : LRep w lb mb v L m) :
    Calls Try.prog 38 #[.pointer (some ⟨lb, 0, none⟩)] w fun e w' => e = .returned (.int .i64 (L.length : Int)) ∧ w = w' := by
  obtain ⟨ad, cap, hv⟩ : ∃ ad cap, v = .slice ad L.length cap := by
    rcases h.row.2 with ⟨h1, h0⟩ | ⟨g, cap, cur, hv, _⟩
    · exact ⟨none, 0, by rw [h0]; exact h1⟩
    · exact ⟨_, _, hv⟩
  subst hv
  have c0 := cell_of_blk h.head 0
  simp at c0
  clear h
  go_enter Try.func38, Try.ntmps38
  go_wp2
  go_ret
  exact ⟨rfl, rfl⟩

theorem flat_set {L : List Ent} {i : Nat} {e : Ent} (hi : i < L.length) : splice (flat L) (i * 4) e.cells = flat (L.set i e) := by
  have hl : e.cells.length = 4 := rfl
  refine List.ext_getElem? fun j => ?_
  obtain ⟨q, r, hr, rfl⟩ : ∃ q r, r < 4 ∧ j = q * 4 + r := ⟨j / 4, j % 4, by omega, by omega⟩
  have hfl := flat_length L
  unfold splice
  rw [List.getElem?_append, List.getElem?_append, List.getElem?_take, List.getElem?_drop, List.length_take, hl, hfl]
  by_cases hq : q < L.length
  · have hset : (L.set i e)[q]? = some (if i = q then e else L[q]) := by
      rw [List.getElem?_set]
      by_cases h : i = q
      · simp [h, hq]
      · simp [h, hq]
    rw [flat_at hset r hr]
    by_cases h : i = q
    · subst h
      rw [if_neg (by omega), if_pos (by omega), if_pos rfl]
      congr 1
      omega
    · rw [if_neg h]
      have hold := flat_at (List.getElem?_eq_getElem hq) r hr
      by_cases h2 : q < i
      · rw [if_pos (by omega), if_pos (by omega)]; exact hold
      · rw [if_neg (by omega), if_neg (by omega), ← hold]
        congr 1
        omega
  · rw [if_neg (by omega), if_neg (by omega), List.getElem?_eq_none (by omega), List.getElem?_eq_none (by rw [flat_length, List.length_set]; omega)]

/-- two change places -/
def swp (L : List Ent) (i k : Nat) (a b : Ent) : List Ent := (L.set i b).set k a
theorem swp_length (L : List Ent) (i k : Nat) (a b : Ent) : (swp L i k a b).length = L.length := by simp [swp]
theorem swp_k {L : List Ent} {i k : Nat} {a b : Ent} (hk : L[k]? = some b) : (swp L i k a b)[k]? = some a := by
  have := (List.getElem?_eq_some_iff.1 hk).1
  simp [swp, this]
theorem swp_i {L : List Ent} {i k : Nat} {a b : Ent} (hi : L[i]? = some a) (hk : L[k]? = some b) : (swp L i k a b)[i]? = some b := by
  have h1 := (List.getElem?_eq_some_iff.1 hi).1
  unfold swp
  rw [List.getElem?_set]
  by_cases h : k = i
  · subst h
    rw [hk] at hi
    simp [h1]
    exact (Option.some.inj hi).symm
  · simp [h, h1]

theorem und48 : Try.prog.underlying 48 = some (.map 54 3) := by kernel_rfl

set_option maxHeartbeats 8000000 in
set_option maxRecDepth 100000 in
theorem swap_any {w : World} {lb mb : Nat} {v : Value} {L : List Ent} {m : List (Nm × Value)} (h : LRep w lb mb v L m) (hn : L.length ≤ 1000) {i k : Nat} {a b : Ent} (hi : L[i]? = some a) (hk : L[k]? = some b) :
    Calls Try.prog 42 #[.pointer (some ⟨lb, 0, none⟩), .int .i64 (i : Int), .int .i64 (k : Int)] w fun e w' => e = .returned (.tuple #[]) ∧
      LRep w' lb mb v (swp L i k a b) (aput (aput m b.nm (.int .i64 (i : Int))) a.nm (.int .i64 (k : Int))) ∧ Only (fun c => c = mb ∨ v.ownBlock = some c) w w' := by
  have g1 : i < L.length := (List.getElem?_eq_some_iff.1 hi).1
  have g2 : k < L.length := (List.getElem?_eq_some_iff.1 hk).1
  obtain ⟨ab, cap, cur, rfl, hab, _⟩ := row_some h.row (by omega)
  have c0 := cell_of_blk h.head 0
  obtain ⟨i0, i1, i2, i3⟩ := row_cells h.row hi
  obtain ⟨k0, k1, k2, k3⟩ := row_cells h.row hk
  have hrow : w.drew.ownsRow 0 32 4 _ _ _ := h.row
  have hmap := h.map
  have hhead := h.head
  have hne : ab ≠ lb := ne_of_elem hab hhead (by decide)
  have hne2 : ab ≠ mb := hmap.ne hab
  have hne3 : lb ≠ mb := hmap.ne hhead
  have HF : Hid (splice (splice (flat L) (i * 4) b.cells) (k * 4) a.cells = flat (swp L i k a b)) := by
    have h1 := flat_set (e := b) g1
    have h2 := flat_set (L := L.set i b) (e := a) (i := k) (by simpa using g2)
    show _ = _
    rw [h1, h2]; rfl
  have hsi := Lib.hid (swp_i hi hk)
  have hsk := Lib.hid (swp_k (i := i) (a := a) hk)
  have hsl := Lib.hid (swp_length L i k a b)
  have hnn : Hid (L.length = L.length) := Lib.hid rfl
  generalize hn0 : L.length = n at *
  have q1 : (i : Int) < (n : Int) := by omega
  have q2 : (k : Int) < (n : Int) := by omega
  simp at c0
  have Hn := Lib.hid hn0
  clear hn0 hi hk h hnn
  go_enter Try.func42, Try.ntmps42
  go_wp2_with fail
  refine wp_region_segR [1,1,1,1,1,1,1,1,1,0,1,1,1,1,1,1,1,1,1,1,1,1,1,1,1,2,2,2] (by kernel_rfl) (by kernel_rfl) ?_
  refine seg_reads 9 (by decide) (by decide) ?_
  simp only [List.take_succ_cons, List.take_zero, List.drop_succ_cons, List.drop_zero]
  iterate 9 (go_big_quiet_step (fail))
  refine wpQuiet_nil ?_
  refine seg_free rfl ?_
  go_big_quiet_step (fail)
  refine wpQuiet_nil ?_
  refine seg_reads 15 (by decide) (by decide) ?_
  simp only [List.take_succ_cons, List.take_zero, List.drop_succ_cons, List.drop_zero]
  iterate 15 (go_big_quiet_step (fail))
  refine wpQuiet_nil ?_
  refine seg_list' _ _ _ _ (by kernel_rfl) ?_
  refine wpl_store_row rfl rfl 32 _ _ rfl 0 32 4 ab n cap i (flat L) hrow g1 _ rfl rfl b.val b.cells rfl rfl rfl (by kernel_rfl) (by simp [Ent.cells, Value.oneCell']) ?_
  intro ob1 hrow1
  iterate 3 go_step
  refine wpl_store_row rfl rfl 32 _ _ rfl 0 32 4 ab n cap k _ hrow1 g2 _ rfl rfl a.val a.cells rfl rfl rfl (by kernel_rfl) (by simp [Ent.cells, Value.oneCell']) ?_
  intro ob2 hrow2
  refine wpList_nil (strict_then ?_)
  rw [HF.out] at hrow2
  have hhead2 : (setBlk (setBlk w.drew ab ob1) ab ob2).heap[lb]? = _ := ((setBlk_other hne).trans (setBlk_other hne)).trans hhead
  have hmap2 : MapIs nmE (setBlk (setBlk w.drew ab ob1) ab ob2) mb m := hmap.kept ((setBlk_other hne2).trans (setBlk_other hne2))
  have honly : Only (fun c => c = mb ∨ (some ab : Option Nat) = some c) w (setBlk (setBlk w.drew ab ob1) ab ob2) :=
    ((Only.refl _ _).drew.setBlk (fun _ => .inr rfl) _).setBlk (fun _ => .inr rfl) _
  clear i0 i1 i2 i3 k0 k1 k2 k3 hrow hrow1 hmap hhead c0 hab HF
  generalize setBlk (setBlk w.drew ab ob1) ab ob2 = w1 at *
  simp only [Hid] at hsi hsk hsl
  have hrow3 := hrow2
  rw [← hsl] at hrow3
  obtain ⟨i0, i1, i2, i3⟩ := row_cells hrow3 hsi
  obtain ⟨k0, k1, k2, k3⟩ := row_cells hrow3 hsk
  have c0 := cell_of_blk hhead2 0
  have c1 := cell_of_blk hhead2 1
  simp at c0 c1
  have Hsl := Lib.hid hsl
  have Hsi := Lib.hid hsi
  have Hsk := Lib.hid hsk
  clear hrow3 hsi hsk hsl hne
  go_wp2_with fail
  refine wp_region_segR [1,1,1,1,1,1,1,1,1,1,1,1,1,1,1,1,1,1,1,1,1,1,2] (by kernel_rfl) (by kernel_rfl) ?_
  refine seg_reads 22 (by decide) (by decide) ?_
  simp only [List.take_succ_cons, List.take_zero, List.drop_succ_cons, List.drop_zero]
  iterate 22 (go_big_quiet_step (fail))
  refine wpQuiet_nil ?_
  refine seg_list' _ _ _ _ (by kernel_rfl) ?_
  refine wpl_mapUpdate rfl rfl 48 _ _ _ rfl nmE 3 und48 mb m hmap2 rfl b.nm rfl trivial (.int .i64 (i : Int)) rfl ?_
  intro ob3 hmap3
  refine wpList_nil (strict_then ?_)
  have hrow4 : (setBlk w1.drew mb ob3).ownsRow 0 32 4 _ _ _ := ownsRow_setBlk (w := w1.drew) hrow2 (by simp [Value.ownBlock, hne2]) ob3
  have hhead4 : (setBlk w1.drew mb ob3).heap[lb]? = _ := (setBlk_other (Ne.symm hne3)).trans hhead2
  have honly4 : Only (fun c => c = mb ∨ (some ab : Option Nat) = some c) w (setBlk w1.drew mb ob3) := honly.trans' ((Only.refl _ _).drew.setBlk (fun _ => .inl rfl) _)
  clear i0 i1 i2 i3 k0 k1 k2 k3 hrow2 hmap2 hhead2 c0 c1 honly
  generalize setBlk w1.drew mb ob3 = w2 at *
  have hrow3 := hrow4
  have hsi := Hsi.out
  have hsk := Hsk.out
  have hsl := Hsl.out
  rw [← hsl] at hrow3
  obtain ⟨i0, i1, i2, i3⟩ := row_cells hrow3 hsi
  obtain ⟨k0, k1, k2, k3⟩ := row_cells hrow3 hsk
  have c0 := cell_of_blk hhead4 0
  have c1 := cell_of_blk hhead4 1
  simp at c0 c1
  clear hrow3 hsi hsk hsl w1
  go_wp2_with fail
  refine wp_region_segR [1,1,1,1,1,1,1,1,1,1,1,1,1,1,1,1,1,1,1,1,1,1,2] (by kernel_rfl) (by kernel_rfl) ?_
  refine seg_reads 22 (by decide) (by decide) ?_
  simp only [List.take_succ_cons, List.take_zero, List.drop_succ_cons, List.drop_zero]
  iterate 22 (go_big_quiet_step (fail))
  refine wpQuiet_nil ?_
  refine seg_list' _ _ _ _ (by kernel_rfl) ?_
  refine wpl_mapUpdate rfl rfl 48 _ _ _ rfl nmE 3 und48 mb _ hmap3 rfl a.nm rfl trivial (.int .i64 (k : Int)) rfl ?_
  intro ob5 hmap5
  refine wpList_nil (strict_intro ?_)
  have hrow6 : (setBlk w2.drew mb ob5).ownsRow 0 32 4 _ _ _ := ownsRow_setBlk (w := w2.drew) hrow4 (by simp [Value.ownBlock, hne2]) ob5
  have hhead6 : (setBlk w2.drew mb ob5).heap[lb]? = _ := (setBlk_other (Ne.symm hne3)).trans hhead4
  have honly6 : Only (fun c => c = mb ∨ (some ab : Option Nat) = some c) w (setBlk w2.drew mb ob5) := honly4.trans' ((Only.refl _ _).drew.setBlk (fun _ => .inl rfl) _)
  go_end0
  refine ⟨rfl, ⟨hhead6, ?_, hmap5⟩, honly6⟩
  rw [Hsl.out]
  exact hrow6
end Go.Proofs.Ytgabgdeakeliaaa
