/- due: the walk of DueTimes. -/
import Derived.Test.YtgabgdeakeliaaaDu10
namespace Go.Proofs.Ytgabgdeakeliaaa
open Go.RowKit Go.Dm

@[go_sem] theorem e0_val : e0.val = .agg #[.int .i64 0, .int .i64 0, .int .u64 0, .int .i64 0] := rfl

/-- A slice of structs that was handed in: its elements, each in k cells. -/
structure ArgRow {α : Type} (w : World) (k : Nat) (cs : α → List Value) (a : Option Addr) (n : Nat) (L : List α) : Prop where
  len : L.length = n
  size : ∀ x, (cs x).length = k
  row : 0 < n → ∃ b o, a = some ⟨b, o, none⟩ ∧ ∀ i x, L[i]? = some x → ∀ j, j < k → w.cell? ⟨b, o + (i * k + j), none⟩ = (cs x)[j]?

/-- The cells of an element, in any world in which only new memory is other. -/
theorem ArgRow.at {w w' : World} {a : Option Addr} {n : Nat} {L : List Ent} (h : ArgRow w 4 Ent.cells a n L) (hb : Below w.heap.size w w') {i : Nat} {e : Ent} (hi : L[i]? = some e) :
    ∃ b o, a = some ⟨b, o, none⟩ ∧ b < w.heap.size ∧ w'.cell? ⟨b, o + i * 4, none⟩ = some (.int .i64 e.at_) ∧ w'.cell? ⟨b, o + i * 4 + 1, none⟩ = some (.int .i64 e.kind) ∧ w'.cell? ⟨b, o + i * 4 + 2, none⟩ = some (.int .u64 e.num) ∧ w'.cell? ⟨b, o + i * 4 + 3, none⟩ = some (.int .i64 e.node) := by
  have hl := (List.getElem?_eq_some_iff.1 hi).1
  obtain ⟨b, o, ha, hc⟩ := h.row (by rw [← h.len]; omega)
  have h0 : w.cell? ⟨b, o + (i * 4 + 0), none⟩ = some (.int .i64 e.at_) := hc i e hi 0 (by omega)
  have hlt : b < w.heap.size := World.block_lt_of_cell? w _ h0
  have key : ∀ j, j < 4 → w'.cell? ⟨b, o + i * 4 + j, none⟩ = e.cells[j]? := fun j hj => by
    rw [World.cell?_of_block (w := w) (hb.block _ hlt), Nat.add_assoc]; exact hc i e hi j hj
  exact ⟨b, o, ha, hlt, key 0 (by omega), key 1 (by omega), key 2 (by omega), key 3 (by omega)⟩


set_option maxHeartbeats 8000000 in
set_option maxRecDepth 100000 in
theorem dueTimes_walk {w : World} {a : Option Addr} {n cap : Nat} {L : List Ent} (h : ArgRow w 4 Ent.cells a n L) (now : Int) :
    Calls Try.prog 4 #[.slice a n cap, .int .i64 now] w fun e w' => e = .returned (.bool true) ∧ Below w.heap.size w w' := by
  generalize hk : w.heap.size = k
  have Hk := Lib.hid hk
  have Ha := Lib.hid h
  have hln := Lib.hid h.len
  clear hk
  by_cases hn : (40 : Int) < (n : Int)
  · clear h
    go_enter Try.func4, Try.ntmps4
    go_wp2_with fail
    refine (head_any _).mono ?_
    rintro e w1 ⟨rfl, ho1⟩
    go_wp2
    go_ret
    exact ⟨rfl, Hk.out ▸ ho1.below⟩
  · clear h
    go_enter Try.func4, Try.ntmps4
    go_wp2_with fail
    refine (head_any _).mono ?_
    rintro e w1 ⟨rfl, ho1⟩
    go_wp2_with fail
    refine (new_any _).mono ?_
    rintro e w2 ⟨qb, rfl, hq2, ho2⟩
    have hz1 := ho1.size
    rw [Hk.out] at hz1
    have hq2 := hq2.mono (F' := fun c => k ≤ c) (fun c hc => Nat.le_trans hz1 hc)
    have ho12 := ho1.trans' ho2
    clear ho1 ho2
    go_wp2_with fail
    go_loopw [23] (fun kv wr => ∃ (i : Nat) (Q : List Ent), kv = .int .i64 (i : Int) ∧ i ≤ n ∧ Hid (Q.length ≤ i) ∧ QIs wr qb (fun c => k ≤ c) Q ∧ Only (fun _ => False) w wr) (fun kv _ => n - (intOf kv).toNat)
    case atStart => exact ⟨0, [], rfl, Nat.zero_le _, (show Hid _ from Nat.zero_le _), hq2, ho12⟩
    case round =>
      obtain ⟨i, Q, rfl, hi, HQ, hq, ho⟩ := hrel
      clear hq2 ho12
      by_cases hin : (i : Int) < (n : Int)
      · have hx : L[i]? = some (fn L i) := at_fn (by rw [hln.out]; omega)
        obtain ⟨b, o, ha, hbk, c0, c1, c2, c3⟩ := Ha.out.at ho.below hx
        subst ha
        have hkr : b < wr.heap.size := Nat.lt_of_lt_of_le hbk ho.size
        generalize fn L i = x at *
        clear hx
        go_wp2_with fail
        have hoA : Only (fun _ => False) wr (wr.alloc (.cells #[.int .i64 x.at_, .int .i64 x.kind, .int .u64 x.num, .int .i64 x.node] 32)) := by
          repeat' (first | exact Only.refl _ _ | refine Only.drewN ?_ _ | refine Only.drew ?_ | refine Only.alloc ?_ _ | refine Only.setCell ?_ (fun _ => by simp) _ | refine Only.setBlk ?_ (fun _ => by simp) _)
        refine (set_any (F := fun c => k ≤ c) (hq.only hoA (fun _ h _ => h)) (by have := HQ.out; omega) x.nm x.at_).mono ?_
        rintro e w3 ⟨rfl, Q2, hQ2, hq3, ho3⟩
        have hz3 := ho.size
        rw [Hk.out] at hz3
        have hq3 := hq3.up (Nat.le_trans hz3 hoA.size)
        have HQ2 : Hid (Q2.length ≤ i + 1) := by
          have := HQ.out
          rcases hQ2 with ⟨_, M, _, h1, h2⟩ | ⟨_, h2⟩
          · have := h1.length_eq; have := h2.length_eq; simp at *; exact (show _ ≤ _ by omega)
          · have := h2.length_eq; simp at *; exact (show _ ≤ _ by omega)
        clear hQ2
        have hall : Only (fun _ => False) w w3 := Only.newer ho3 (ho.trans' hoA) Hk.out.symm
        go_wp2
        go_roundw
        case rel => exact ⟨i + 1, Q2, by simp, by omega, HQ2, hq3, hall⟩
        case measure => simp [intOf]; omega
      · have hin2 : (n : Int) ≤ (i : Int) := by omega
        go_wp2_with fail
        go_loopw [8] (fun kv wr => ∃ (j : Nat) (Q : List Ent), kv = .int .i64 (j : Int) ∧ Hid (Q.length + j ≤ n) ∧ QIs wr qb (fun c => k ≤ c) Q ∧ Only (fun _ => False) w wr) (fun kv _ => n + 1 - (intOf kv).toNat)
        case atStart => exact ⟨0, Q, rfl, (show Hid _ from (by have := HQ.out; omega : Q.length + 0 ≤ n)), hq, ho⟩
        case round =>
          obtain ⟨j, Q, rfl, HQ, hq, ho⟩ := hrel
          have hjn : (j : Int) ≤ (n : Int) := by have := HQ.out; omega
          go_wp2_with fail
          refine (next_any (F := fun c => k ≤ c) hq (by have := HQ.out; omega) now).mono ?_
          rintro e w3 ⟨Q2, hQ2, hq3, ho3⟩
          have hz3 := ho.size
          rw [Hk.out] at hz3
          have hq3 := hq3.up hz3
          have hall : Only (fun _ => False) w w3 := Only.newer ho3 ho Hk.out.symm
          rcases hQ2 with ⟨x, hp, hx, hl, rfl⟩ | ⟨hl, hQ2, rfl⟩
          · have HQ2 : Hid (Q2.length + (j + 1) ≤ n) := by
              have := hp.length_eq
              have := HQ.out
              simp at *
              exact (show _ ≤ _ by omega)
            clear hp hl
            have hx' : ¬ now < x.at_ := by omega
            obtain ⟨x1, x2, x3, x4⟩ := x
            dsimp only at hx hx'
            go_wp2
            go_roundw
            case rel =>
              refine ⟨j + 1, Q2, by simp, HQ2, hq3.only (S := fun _ => False) ?_ (fun _ h _ => h), hall.trans' ?_⟩
              all_goals
                repeat' (first | exact Only.refl _ _ | refine Only.drewN ?_ _ | refine Only.drew ?_ | refine Only.alloc ?_ _ | refine Only.setCell ?_ (fun _ => by simp) _ | refine Only.setBlk ?_ (fun _ => by simp) _)
            case measure => simp [intOf]; omega
          · subst hQ2
            have Hl := Lib.hid hl
            clear hl
            go_wp2_with fail
            have ho4 : Only (fun _ => False) w3 (w3.alloc (.cells #[.int .i64 0, .int .i64 0, .int .u64 0, .int .i64 0] 32)) := by
              repeat' (first | exact Only.refl _ _ | refine Only.drewN ?_ _ | refine Only.drew ?_ | refine Only.alloc ?_ _ | refine Only.setCell ?_ (fun _ => by simp) _ | refine Only.setBlk ?_ (fun _ => by simp) _)
            have hq4 := hq3.only ho4 (fun _ h _ => h)
            have hall := hall.trans' ho4
            clear hq hq3 ho ho3 ho4
            go_loopw [56] (fun kv wr => ∃ (j : Nat), kv = .int .i64 (j : Int) ∧ j ≤ n ∧ QIs wr qb (fun c => k ≤ c) Q2 ∧ Only (fun _ => False) w wr) (fun kv _ => n - (intOf kv).toNat)
            case atStart => exact ⟨0, rfl, Nat.zero_le _, hq4, hall⟩
            case round =>
              obtain ⟨j, rfl, hj, hq, ho⟩ := hrel
              clear hq4 hall
              by_cases hjn : (j : Int) < (n : Int)
              · have hx : L[j]? = some (fn L j) := at_fn (by rw [hln.out]; omega)
                obtain ⟨b, o, ha, hbk, c0, c1, c2, c3⟩ := Ha.out.at ho.below hx
                subst ha
                have hkr : b < wr.heap.size := Nat.lt_of_lt_of_le hbk ho.size
                generalize fn L j = x at *
                clear hx
                go_wp2_with fail
                have hoA : Only (fun _ => False) wr (wr.alloc (.cells #[.int .i64 x.at_, .int .i64 x.kind, .int .u64 x.num, .int .i64 x.node] 32)) := by
                  repeat' (first | exact Only.refl _ _ | refine Only.drewN ?_ _ | refine Only.drew ?_ | refine Only.alloc ?_ _ | refine Only.setCell ?_ (fun _ => by simp) _ | refine Only.setBlk ?_ (fun _ => by simp) _)
                refine (when_any (hq.only hoA (fun _ h _ => h)) (by have := HQ.out; omega) x.nm).mono ?_
                rintro e w5 ⟨hr, ho5⟩
                have hall := (ho.trans' hoA).trans' ho5
                have hq5 := (hq.only hoA (fun _ h _ => h)).only ho5 (fun _ h _ => h)
                rcases hr with ⟨y, hy, _, rfl⟩ | ⟨_, rfl⟩
                · have hyn := Hl.out y hy
                  have hyn' : ¬ y.at_ ≤ now := by omega
                  clear hy
                  go_wp2
                  go_roundw
                  case rel => exact ⟨j + 1, by simp, by omega, hq5, hall⟩
                  case measure => simp [intOf]; omega
                · go_wp2
                  go_roundw
                  case rel => exact ⟨j + 1, by simp, by omega, hq5, hall⟩
                  case measure => simp [intOf]; omega
              · have hjn2 : (n : Int) ≤ (j : Int) := by omega
                go_wp2
                go_ret
                exact ⟨rfl, Hk.out ▸ ho.below⟩
end Go.Proofs.Ytgabgdeakeliaaa
