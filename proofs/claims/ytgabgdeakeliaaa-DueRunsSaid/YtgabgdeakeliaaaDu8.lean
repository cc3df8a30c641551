/- due: Drop and Set. -/
import Derived.Test.YtgabgdeakeliaaaDu7
namespace Go.Proofs.Ytgabgdeakeliaaa
open Go.RowKit Go.Dm

def DropR (w : World) (qb : Nat) (F : Nat → Prop) (L : List Ent) (n : Nm) (e : Ending) (w' : World) : Prop :=
  ∃ L', ((∃ x, x ∈ L ∧ x.nm = n ∧ L.Perm (x :: L') ∧ e = .returned (.bool true)) ∨ ((∀ x ∈ L, x.nm ≠ n) ∧ L' = L ∧ e = .returned (.bool false))) ∧ QIs w' qb (fun c => F c ∨ w.heap.size ≤ c) L' ∧ Only F w w'

set_option maxHeartbeats 2000000 in
set_option maxRecDepth 100000 in
theorem drop_any {w : World} {qb : Nat} {F : Nat → Prop} {L : List Ent} (h : QIs w qb F L) (hn : L.length ≤ 1000) (n : Nm) :
    Calls Try.prog 13 #[.pointer (some ⟨qb, 0, none⟩), .int .i64 n.kind, .agg #[.int .u64 n.num, .int .i64 n.node]] w (DropR w qb F L n) := by
  obtain ⟨⟨lb, mb, v, hq, hR, f1, f2, f3⟩, f0⟩ := h
  have hRR := hR
  obtain ⟨⟨m, hrep, hc⟩, hheap⟩ := hRR
  have ho : Only (fun _ => False) w (w.alloc (.cells #[.int .u64 n.num, .int .i64 n.node] 30)) := by
    repeat' (first | exact Only.refl _ _ | refine Only.drewN ?_ _ | refine Only.drew ?_ | refine Only.alloc ?_ _ | refine Only.setCell ?_ (fun _ => by simp) _ | refine Only.setBlk ?_ (fun _ => by simp) _)
  have hs : (w.alloc (.cells #[.int .u64 n.num, .int .i64 n.node] 30)).heap[w.heap.size]? = _ := blk_alloc_new
  have hrep1 := hrep.quiet ho
  have hq1 := ho.blk hq id
  have hR1 := hR.only ho id id (fun _ _ => id)
  rcases nm_or L n with ⟨i, x, hi, hx⟩ | hno
  · obtain ⟨hg, hh⟩ := hc.get hi
    rw [hx] at hg hh
    have hlk : ∀ y : Later (fun _ => False) (w.alloc (.cells #[.int .u64 n.num, .int .i64 n.node] 30)), (Instr.lookup 48 (.map (some mb)) (.agg #[.int .i64 n.kind, .int .u64 n.num, .int .i64 n.node]) true).run Try.prog y.u = .ok (.tuple #[.int .i64 (i : Int), .bool true]) y.u := fun y => by
      have := (hrep1.map.only y.only id).lookup und48 (zero3 _) n trivial true
      rw [hg, hh] at this
      exact this
    have gi : i < L.length := (List.getElem?_eq_some_iff.1 hi).1
    obtain ⟨ab, cap, cur, rfl, hab, hcap, hmx, hcs⟩ := row_some hrep1.row (by omega)
    obtain ⟨x0, _, _, _⟩ := row_cells hrep1.row hi
    have c0 := cell_of_blk hrep1.head 0
    have c1 := cell_of_blk hrep1.head 1
    have d0 := cell_of_blk hq1 0
    have n0 := cell_of_blk hs 0
    have n1 := cell_of_blk hs 1
    simp only [List.getElem?_toArray, List.getElem?_cons_zero, List.getElem?_cons_succ] at c0 c1 d0 n0 n1
    have lc0 := later_cell (S := fun _ => False) c0 id
    have lc1 := later_cell (S := fun _ => False) c1 id
    have ld0 := later_cell (S := fun _ => False) d0 id
    have ln0 := later_cell (S := fun _ => False) n0 id
    have ln1 := later_cell (S := fun _ => False) n1 id
    have z0 := free_of_blk hab (i * 4)
    generalize hw1 : (w.alloc (.cells #[.int .u64 n.num, .int .i64 n.node] 30)) = w1 at *
    have Hw1 := Lib.hid hw1
    have Hi := Lib.hid hi
    have Hx := Lib.hid hx
    generalize hN : L.length = N at *
    have HN := Lib.hid hN
    have g1 : (i : Int) < (N : Int) := by omega
    clear hw1 hi hx hg hh hN
    go_enter Try.func13, Try.ntmps13
    go_wp2_with fail
    rw [Hw1.out]
    refine wp_region_segL [1,1,1,1,1,1,1,1,1,1,1,1,1,1,1,1] (fun _ => False) (by kernel_rfl) (by kernel_rfl) ?_
    refine seg_reads 16 (by decide) (by decide) ?_
    simp only [List.take_succ_cons, List.take_zero, List.drop_succ_cons, List.drop_zero]
    iterate 16 (go_big_quiet_step (fail))
    refine wpQuiet_nil ?_
    refine seg_nil_then ?_
    clear lc0 lc1 ld0 ln0 ln1 hlk
    have d1 : w1.drew.cell? ⟨qb, 0, none⟩ = some (.pointer (some ⟨lb, 0, none⟩)) := d0
    have hrm := hremove_any (w := w1.drew) (i := i) (hR1.only (Only.refl (fun _ => False) _).drew id id (fun _ _ => id)) (by rw [HN.out]; exact hn) (by rw [HN.out]; exact gi)
    rw [fn_at Hi.out] at hrm
    have Hrm := Lib.hid hrm
    clear hrm
    go_wp2_with fail
    refine Hrm.out.mono ?_
    rintro r w2 ⟨rfl, v', L', hv', hR2, hperm, ho2⟩
    go_wp2
    go_ret
    have hz := ho.size
    have hne : ∀ c, (c = mb ∨ c = lb ∨ some c = (Value.slice (some ⟨ab, 0, none⟩) N cap).ownBlock) → F c := by
      rintro c (rfl | rfl | h)
      · exact f2
      · exact f1
      · exact f3 c h.symm
    refine ⟨L', .inl ⟨x, List.mem_of_getElem? Hi.out, Hx.out, hperm, rfl⟩, ⟨⟨lb, mb, v', ?_, hR2, .inl f1, .inl f2, fun k hk => .inl (f3 k (by rw [← hv']; exact hk))⟩, .inl f0⟩, ?_⟩
    · refine ho2.blk hq1 ?_
      rintro (h | h | h)
      · obtain ⟨m2, hm2, _⟩ := hR1.rep; rw [h] at hq1; exact hm2.map.ne hq1 rfl
      · rw [h] at hq1; rw [hrep1.head] at hq1; injection hq1 with hq1; injection hq1 with _ h2; exact absurd h2 (by decide)
      · exact ne_of_elem hq1 hab (by decide) (by simpa [Value.ownBlock] using h)
    · exact (ho.mono fun _ _ h => h.elim).trans ((Only.refl F w1).drew.trans ho2 fun c _ h => hne c h) fun _ _ h => h
  · obtain ⟨hg, hh⟩ := hc.lacks hno
    have hlk : ∀ y : Later (fun _ => False) (w.alloc (.cells #[.int .u64 n.num, .int .i64 n.node] 30)), (Instr.lookup 48 (.map (some mb)) (.agg #[.int .i64 n.kind, .int .u64 n.num, .int .i64 n.node]) true).run Try.prog y.u = .ok (.tuple #[.int .i64 0, .bool false]) y.u := fun y => by
      have := (hrep1.map.only y.only id).lookup und48 (zero3 _) n trivial true
      rw [hg, hh] at this
      exact this
    have c0 := cell_of_blk hrep1.head 0
    have c1 := cell_of_blk hrep1.head 1
    have d0 := cell_of_blk hq1 0
    have n0 := cell_of_blk hs 0
    have n1 := cell_of_blk hs 1
    simp only [List.getElem?_toArray, List.getElem?_cons_zero, List.getElem?_cons_succ] at c0 c1 d0 n0 n1
    have lc0 := later_cell (S := fun _ => False) c0 id
    have lc1 := later_cell (S := fun _ => False) c1 id
    have ld0 := later_cell (S := fun _ => False) d0 id
    have ln0 := later_cell (S := fun _ => False) n0 id
    have ln1 := later_cell (S := fun _ => False) n1 id
    generalize hw1 : (w.alloc (.cells #[.int .u64 n.num, .int .i64 n.node] 30)) = w1 at *
    have Hw1 := Lib.hid hw1
    clear hw1 hg hh
    go_enter Try.func13, Try.ntmps13
    go_wp2_with fail
    rw [Hw1.out]
    refine wp_region_segL [1,1,1,1,1,1,1,1,1,1,1,1,1,1,1,1] (fun _ => False) (by kernel_rfl) (by kernel_rfl) ?_
    refine seg_reads 16 (by decide) (by decide) ?_
    simp only [List.take_succ_cons, List.take_zero, List.drop_succ_cons, List.drop_zero]
    iterate 16 (go_big_quiet_step (fail))
    refine wpQuiet_nil ?_
    refine seg_nil_then ?_
    clear lc0 lc1 ld0 ln0 ln1 hlk
    go_wp2
    go_ret
    have ho' := ho.drew
    exact ⟨L, .inr ⟨hno, rfl, rfl⟩, ⟨⟨lb, mb, v, ho'.blk hq id, hR.only ho' id id (fun _ _ => id), .inl f1, .inl f2, fun k hk => .inl (f3 k hk)⟩, .inl f0⟩, ho'.mono fun _ _ h => h.elim⟩

def SetR (w : World) (qb : Nat) (F : Nat → Prop) (L : List Ent) (ne : Ent) (e : Ending) (w' : World) : Prop :=
  e = .returned (.tuple #[]) ∧ ∃ L', ((∃ x M, x.nm = ne.nm ∧ L.Perm (x :: M) ∧ L'.Perm (ne :: M)) ∨ ((∀ x ∈ L, x.nm ≠ ne.nm) ∧ L'.Perm (ne :: L))) ∧ QIs w' qb (fun c => F c ∨ w.heap.size ≤ c) L' ∧ Only F w w'

theorem flat_at0 {L : List Ent} {i : Nat} {x y : Ent} (hi : L[i]? = some x) (h1 : y.nm = x.nm) : (flat L).set (i * 4) (.int .i64 y.at_) = flat (L.set i y) := by
  have hl := (List.getElem?_eq_some_iff.1 hi).1
  obtain ⟨x1, x2, x3, x4⟩ := x
  obtain ⟨y1, y2, y3, y4⟩ := y
  simp only [Ent.nm, Nm.mk.injEq] at h1
  obtain ⟨rfl, rfl, rfl⟩ := h1
  refine List.ext_getElem? fun j => ?_
  obtain ⟨q, r, hr, rfl⟩ : ∃ q r, r < 4 ∧ j = q * 4 + r := ⟨j / 4, j % 4, by omega, by omega⟩
  rw [List.getElem?_set, flat_length]
  by_cases hq : q < L.length
  · have hset : (L.set i ⟨y1, y2, y3, y4⟩)[q]? = some (if i = q then ⟨y1, y2, y3, y4⟩ else L[q]) := by
      rw [List.getElem?_set]
      by_cases h : i = q
      · simp [h, hq]
      · simp [h, hq]
    rw [flat_at hset r hr]
    by_cases h : i = q
    · subst h
      rw [if_pos rfl, flat_at hi r hr]
      rcases r with _ | _ | _ | _ | r
      · rw [if_pos (by omega), if_pos (by omega)]; rfl
      · rw [if_neg (by omega)]; rfl
      · rw [if_neg (by omega)]; rfl
      · rw [if_neg (by omega)]; rfl
      · omega
    · rw [if_neg (by omega), if_neg h]
      exact flat_at (List.getElem?_eq_getElem hq) r hr
  · rw [if_neg (by omega), List.getElem?_eq_none (by rw [flat_length]; omega), List.getElem?_eq_none (by rw [flat_length, List.length_set]; omega)]

theorem erase_perm {L : List Ent} {i : Nat} {x : Ent} (h : L[i]? = some x) : L.Perm (x :: L.eraseIdx i) := by
  induction L generalizing i with
  | nil => simp at h
  | cons y L ih =>
    cases i with
    | zero => simp at h; subst h; exact List.Perm.refl _
    | succ i => exact ((ih (i := i) (by simpa using h)).cons y).trans (List.Perm.swap _ _ _)
theorem erase_set (L : List Ent) (i : Nat) (y : Ent) : (L.set i y).eraseIdx i = L.eraseIdx i := by
  induction L generalizing i with
  | nil => simp
  | cons x L ih => cases i with
    | zero => rfl
    | succ i => simp [ih]

theorem at_turned {L : List Ent} {i : Nat} {y : Ent} (hi : i < L.length) (hh : HeapTo (fn L) L.length) : AtI (fn (L.set i y)) L.length i := by
  have hne : ∀ t, t ≠ i → fn (L.set i y) t = fn L t := fun t ht => by
    have : ¬ i = t := fun e => ht e.symm
    simp [fn, List.getD_eq_getElem?_getD, List.getElem?_set, this]
  constructor
  · intro t h0 ht h1 h2
    unfold okp
    rw [hne t h1, hne _ h2]
    exact hh t h0 ht
  · intro t h0 ht hp hi0
    have hpt : i < t := by unfold par at hp; omega
    have hpi : par i < i := by unfold par; omega
    unfold okp
    rw [hne t (by omega), hne _ (by omega)]
    have h1 := hh t h0 ht
    unfold okp at h1
    rw [hp] at h1
    exact bef_trans h1 (hh i hi0 hi)

set_option maxHeartbeats 2000000 in
set_option maxRecDepth 100000 in
theorem set_any {w : World} {qb : Nat} {F : Nat → Prop} {L : List Ent} (h : QIs w qb F L) (hn : L.length < 1000) (n : Nm) (at_ : Int) :
    Calls Try.prog 8 #[.pointer (some ⟨qb, 0, none⟩), .int .i64 n.kind, .agg #[.int .u64 n.num, .int .i64 n.node], .int .i64 at_] w (SetR w qb F L ⟨at_, n.kind, n.num, n.node⟩) := by
  obtain ⟨⟨lb, mb, v, hq, hR, f1, f2, f3⟩, f0⟩ := h
  have hRR := hR
  obtain ⟨⟨m, hrep, hc⟩, hheap⟩ := hRR
  have ho : Only (fun _ => False) w (w.alloc (.cells #[.int .u64 n.num, .int .i64 n.node] 30)) := by
    repeat' (first | exact Only.refl _ _ | refine Only.drewN ?_ _ | refine Only.drew ?_ | refine Only.alloc ?_ _ | refine Only.setCell ?_ (fun _ => by simp) _ | refine Only.setBlk ?_ (fun _ => by simp) _)
  have hs : (w.alloc (.cells #[.int .u64 n.num, .int .i64 n.node] 30)).heap[w.heap.size]? = _ := blk_alloc_new
  have hrep1 := hrep.quiet ho
  have hq1 := ho.blk hq id
  have hR1 := hR.only ho id id (fun _ _ => id)
  rcases nm_or L n with ⟨i, x, hi, hx⟩ | hno
  · obtain ⟨hg, hh⟩ := hc.get hi
    rw [hx] at hg hh
    have hlk : ∀ y : Later (fun _ => False) (w.alloc (.cells #[.int .u64 n.num, .int .i64 n.node] 30)), (Instr.lookup 48 (.map (some mb)) (.agg #[.int .i64 n.kind, .int .u64 n.num, .int .i64 n.node]) true).run Try.prog y.u = .ok (.tuple #[.int .i64 (i : Int), .bool true]) y.u := fun y => by
      have := (hrep1.map.only y.only id).lookup und48 (zero3 _) n trivial true
      rw [hg, hh] at this
      exact this
    have gi : i < L.length := (List.getElem?_eq_some_iff.1 hi).1
    obtain ⟨ab, cap, cur, rfl, hab, hcap, hmx, hcs⟩ := row_some hrep1.row (by omega)
    obtain ⟨x0, _, _, _⟩ := row_cells hrep1.row hi
    have c0 := cell_of_blk hrep1.head 0
    have c1 := cell_of_blk hrep1.head 1
    have d0 := cell_of_blk hq1 0
    have n0 := cell_of_blk hs 0
    have n1 := cell_of_blk hs 1
    simp only [List.getElem?_toArray, List.getElem?_cons_zero, List.getElem?_cons_succ] at c0 c1 d0 n0 n1
    have lc0 := later_cell (S := fun _ => False) c0 id
    have lc1 := later_cell (S := fun _ => False) c1 id
    have ld0 := later_cell (S := fun _ => False) d0 id
    have ln0 := later_cell (S := fun _ => False) n0 id
    have ln1 := later_cell (S := fun _ => False) n1 id
    have z0 := free_of_blk hab (i * 4)
    generalize hw1 : (w.alloc (.cells #[.int .u64 n.num, .int .i64 n.node] 30)) = w1 at *
    have Hw1 := Lib.hid hw1
    have Hi := Lib.hid hi
    have Hx := Lib.hid hx
    generalize hN : L.length = N at *
    have HN := Lib.hid hN
    have g1 : (i : Int) < (N : Int) := by omega
    clear hw1 hi hx hg hh hN
    go_enter Try.func8, Try.ntmps8
    go_wp2_with fail
    rw [Hw1.out]
    refine wp_region_segL [1,1,1,1,1,1,1,1,1,1,1,1,1,1,1,1] (fun _ => False) (by kernel_rfl) (by kernel_rfl) ?_
    refine seg_reads 16 (by decide) (by decide) ?_
    simp only [List.take_succ_cons, List.take_zero, List.drop_succ_cons, List.drop_zero]
    iterate 16 (go_big_quiet_step (fail))
    refine wpQuiet_nil ?_
    refine seg_nil_then ?_
    clear lc0 lc1 ld0 ln0 ln1 hlk
    have d1 : w1.drew.cell? ⟨qb, 0, none⟩ = some (.pointer (some ⟨lb, 0, none⟩)) := d0
    have hqa : qb ≠ ab := ne_of_elem hq1 hab (by decide)
    have hla : lb ≠ ab := ne_of_elem hrep1.head hab (by decide)
    have hma : ab ≠ mb := hrep1.map.ne hab
    have hy : (⟨at_, n.kind, n.num, n.node⟩ : Ent).nm = x.nm := by rw [Hx.out]; rfl
    have hrow : w1.ownsRow 0 32 4 (.slice (some ⟨ab, 0, none⟩) N cap) N (flat L) := by have := hrep1.row; rwa [HN.out] at this
    have hst := (hrow.stored (i * 4) (.int .i64 at_)).1
    have hset := flat_at0 (y := ⟨at_, n.kind, n.num, n.node⟩) Hi.out hy
    rw [hset] at hst
    have hlen : (L.set i ⟨at_, n.kind, n.num, n.node⟩).length = N := by rw [List.length_set]; exact HN.out
    have hos : Only (fun c => c = ab) w1 (w1.setCell ⟨ab, i * 4, none⟩ (.int .i64 at_)).drew := by
      repeat' (first | exact Only.refl _ _ | refine Only.drewN ?_ _ | refine Only.drew ?_ | refine Only.alloc ?_ _ | refine Only.setCell ?_ (fun _ => by simp) _ | refine Only.setBlk ?_ (fun _ => by simp) _)
    have hrep2 : LRep (w1.setCell ⟨ab, i * 4, none⟩ (.int .i64 at_)).drew lb mb (.slice (some ⟨ab, 0, none⟩) N cap) (L.set i ⟨at_, n.kind, n.num, n.node⟩) m :=
      ⟨hos.blk hrep1.head hla, by rw [hlen]; exact hst, hrep1.map.only hos (fun e => hma e.symm)⟩
    have hfx := hfix_any hrep2 (hc.turn Hi.out hy) (by rw [hlen]; omega) (i := i) (by rw [hlen]; exact gi) (by rw [hlen]; have := at_turned (y := ⟨at_, n.kind, n.num, n.node⟩) (L := L) (i := i) (by rw [HN.out]; exact gi) (by rw [HN.out]; exact hheap); rwa [HN.out] at this)
    have Hfx := Lib.hid hfx
    have Hos := Lib.hid hos
    have hqs := hos.blk hq1 hqa
    have dq := cell_of_blk hqs 0
    simp only [List.getElem?_toArray, List.getElem?_cons_zero] at dq
    clear hfx hrep2 hos hst hset hrow hlen
    go_wp2_with fail
    refine Hfx.out.mono ?_
    rintro r w3 ⟨rfl, L3, hR3, hp3, ho3⟩
    go_wp2
    go_end0
    have e0 : F ab := f3 ab rfl
    refine ⟨rfl, L3, .inl ⟨x, L.eraseIdx i, hy.symm, ?_, ?_⟩, ⟨⟨lb, mb, _, ?_, hR3, .inl f1, .inl f2, fun k hk => .inl (f3 k hk)⟩, .inl f0⟩, ?_⟩
    · exact erase_perm Hi.out
    · have hl : i < L.length := by rw [HN.out]; exact gi
      have h1 : (L.set i ⟨at_, n.kind, n.num, n.node⟩)[i]? = some ⟨at_, n.kind, n.num, n.node⟩ := by simp [hl]
      have := erase_perm h1
      rw [erase_set] at this
      exact hp3.trans this
    · refine ho3.blk hqs ?_
      rintro (h | h)
      · exact hrep1.map.ne hq1 h
      · injection h with h; exact hqa h.symm
    · refine (ho.mono fun _ _ h => h.elim).trans ((Hos.out.mono (S' := F) fun c _ h => h ▸ e0).trans ho3 fun c _ h => ?_) fun _ _ h => h
      rcases h with h | h
      · exact h ▸ f2
      · exact f3 c h
  · obtain ⟨hg, hh⟩ := hc.lacks hno
    have hlk : ∀ y : Later (fun _ => False) (w.alloc (.cells #[.int .u64 n.num, .int .i64 n.node] 30)), (Instr.lookup 48 (.map (some mb)) (.agg #[.int .i64 n.kind, .int .u64 n.num, .int .i64 n.node]) true).run Try.prog y.u = .ok (.tuple #[.int .i64 0, .bool false]) y.u := fun y => by
      have := (hrep1.map.only y.only id).lookup und48 (zero3 _) n trivial true
      rw [hg, hh] at this
      exact this
    have c0 := cell_of_blk hrep1.head 0
    have c1 := cell_of_blk hrep1.head 1
    have d0 := cell_of_blk hq1 0
    have n0 := cell_of_blk hs 0
    have n1 := cell_of_blk hs 1
    simp only [List.getElem?_toArray, List.getElem?_cons_zero, List.getElem?_cons_succ] at c0 c1 d0 n0 n1
    have lc0 := later_cell (S := fun _ => False) c0 id
    have lc1 := later_cell (S := fun _ => False) c1 id
    have ld0 := later_cell (S := fun _ => False) d0 id
    have ln0 := later_cell (S := fun _ => False) n0 id
    have ln1 := later_cell (S := fun _ => False) n1 id
    generalize hw1 : (w.alloc (.cells #[.int .u64 n.num, .int .i64 n.node] 30)) = w1 at *
    have Hw1 := Lib.hid hw1
    clear hw1 hg hh
    go_enter Try.func8, Try.ntmps8
    go_wp2_with fail
    rw [Hw1.out]
    refine wp_region_segL [1,1,1,1,1,1,1,1,1,1,1,1,1,1,1,1] (fun _ => False) (by kernel_rfl) (by kernel_rfl) ?_
    refine seg_reads 16 (by decide) (by decide) ?_
    simp only [List.take_succ_cons, List.take_zero, List.drop_succ_cons, List.drop_zero]
    iterate 16 (go_big_quiet_step (fail))
    refine wpQuiet_nil ?_
    refine seg_nil_then ?_
    clear lc0 lc1 ld0 ln0 ln1 hlk
    have hdd : Only (fun _ => False) w1 w1.drew.drew := (Only.refl _ _).drew.drew
    have hq2 : w1.drew.drew.heap[qb]? = _ := hq1
    have hpu := hpush_any (e := ⟨at_, n.kind, n.num, n.node⟩) (hR1.only hdd id id (fun _ _ => id)) hn hno
    have Hpu := Lib.hid hpu
    clear hpu
    go_wp2_with fail
    refine wp_region_segR [1,1,1,1,1,1,1,1,1,1,2] (by kernel_rfl) (by kernel_rfl) ?_
    refine seg_reads 10 (by decide) (by decide) ?_
    simp only [List.take_succ_cons, List.take_zero, List.drop_succ_cons, List.drop_zero]
    iterate 10 (go_big_quiet_step (fail))
    refine wpQuiet_nil ?_
    refine seg_list' _ _ _ _ (by kernel_rfl) ?_
    go_wp2_with fail
    refine Hpu.out.mono ?_
    rintro r w3 ⟨rfl, v3, L3, hv3, hR3, hp3, ho3⟩
    go_wp2_with fail
    refine strict_intro ?_
    go_end0
    have hz := ho.size
    have hne : ∀ c, (c = mb ∨ c = lb ∨ some c = v.ownBlock) → F c := by
      rintro c (rfl | rfl | h)
      · exact f2
      · exact f1
      · exact f3 c h.symm
    refine ⟨rfl, L3, .inr ⟨hno, hp3⟩, ⟨⟨lb, mb, v3, ?_, hR3, .inl f1, .inl f2, fun k hk => ?_⟩, .inl f0⟩, ?_⟩
    · refine ho3.blk hq2 ?_
      rintro (h | h | h)
      · exact hrep1.map.ne hq1 h
      · rw [h] at hq1; rw [hrep1.head] at hq1; injection hq1 with hq1; injection hq1 with _ h2; exact absurd h2 (by decide)
      · rcases hrep1.row.2 with ⟨h1, _⟩ | ⟨g, cap', cur, hv, _, hh, _⟩
        · rw [h1] at h; cases h
        · rw [hv] at h
          have : qb = g := by simpa [Value.ownBlock] using h
          exact ne_of_elem hq1 hh (by decide) this
    · rcases hv3 with h | ⟨k', h, hk'⟩
      · exact .inl (f3 k (by rw [← h]; exact hk))
      · rw [h] at hk; injection hk with hk; subst hk
        exact .inr (Nat.le_trans hz hk')
    · exact (ho.mono fun _ _ h => h.elim).trans ((Only.refl F w1).drew.drew.trans ho3 fun c _ h => hne c h) fun _ _ h => h
end Go.Proofs.Ytgabgdeakeliaaa
