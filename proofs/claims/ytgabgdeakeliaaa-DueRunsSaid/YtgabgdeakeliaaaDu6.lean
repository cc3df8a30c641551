/- due: container/heap's Push, Pop, Fix, Remove. -/
import Derived.Test.YtgabgdeakeliaaaDu5
namespace Go.Proofs.Ytgabgdeakeliaaa
open Go.RowKit Go.Dm

/-- What a list that is a heap looks like. -/
structure HRep (w : World) (lb mb : Nat) (v : Value) (L : List Ent) : Prop where
  rep : ∃ m, LRep w lb mb v L m ∧ Cons L m
  heap : HeapTo (fn L) L.length

theorem fn_append_left {L M : List Ent} {i : Nat} (h : i < L.length) : fn (L ++ M) i = fn L i := by
  simp [fn, List.getD_eq_getElem?_getD, List.getElem?_append_left h]
theorem fn_congr {L M : List Ent} {i : Nat} (h : L[i]? = M[i]?) : fn L i = fn M i := by
  simp [fn, List.getD_eq_getElem?_getD, h]

def PushR (w : World) (lb mb : Nat) (v : Value) (L : List Ent) (e : Ent) (r : Ending) (w' : World) : Prop :=
  r = .returned (.tuple #[]) ∧ ∃ v' L', (v'.ownBlock = v.ownBlock ∨ ∃ k, v'.ownBlock = some k ∧ w.heap.size ≤ k) ∧ HRep w' lb mb v' L' ∧ L'.Perm (e :: L) ∧ Only (fun c => c = mb ∨ c = lb ∨ some c = v.ownBlock) w w'

set_option maxHeartbeats 1000000 in
set_option maxRecDepth 100000 in
theorem hpush_any {w : World} {lb mb : Nat} {v : Value} {L : List Ent} {e : Ent} (h : HRep w lb mb v L) (hn : L.length < 1000) (he : ∀ x ∈ L, x.nm ≠ e.nm) :
    Calls Try.prog 15 #[.iface 47 (.pointer (some ⟨lb, 0, none⟩)), .iface 32 e.val] w (PushR w lb mb v L e) := by
  obtain ⟨⟨m, hrep, hcons⟩, hheap⟩ := h
  go_enter Try.func15, Try.ntmps15
  go_wp2_with fail
  refine (push_any e hrep (by omega)).mono ?_
  rintro r w1 ⟨rfl, v1, hv1, hrep1, ho1⟩
  go_wp2_with fail
  refine (len_any hrep1).mono ?_
  rintro r _ ⟨rfl, rfl⟩
  have hl : (L ++ [e]).length = L.length + 1 := by simp
  have hi : ((L.length + 1 : Nat) : Int) - 1 = (L.length : Int) := by omega
  rw [hl]
  go_wp2_with fail
  refine (up_any (n := L.length + 1) (j := L.length) hrep1 (hcons.push he) (by omega) (by omega) (by omega) ⟨?_, ?_⟩).mono ?_
  · intro i h0 hi hne
    have hp : par i < i := by unfold par; omega
    unfold okp
    rw [fn_append_left (by omega), fn_append_left (by omega)]
    exact hheap i h0 (by omega)
  · intro i h0 hi hp
    unfold par at hp; omega
  rintro r w2 ⟨rfl, L2, m2, hrep2, hcons2, hperm2, _, hheap2, ho2⟩
  go_wp2
  go_end0
  refine ⟨rfl, v1, L2, hv1, ⟨⟨m2, hrep2, hcons2⟩, ?_⟩, hperm2.trans (List.perm_append_comm), ho1.trans ho2 ?_⟩
  · rw [hperm2.length_eq, hl]; exact hheap2
  · intro c hc h
    rcases h with h | h
    · exact .inl h
    · rcases hv1 with h1 | ⟨k, h1, h2⟩
      · exact .inr (.inr (by rw [← h1, h]))
      · rw [h1] at h; injection h with h; omega

/-- A list by its last. -/
theorem snoc_of {L : List Ent} {n : Nat} {e : Ent} (hl : L.length = n + 1) (hn : L[n]? = some e) : L = L.take n ++ [e] := by
  have h1 : n < L.length := by omega
  have h2 : L[n] = e := (List.getElem?_eq_some_iff.1 hn).2
  have := List.take_append_getElem h1
  rw [h2] at this
  rw [this, ← hl, List.take_length]

def PopR (w : World) (lb mb : Nat) (v : Value) (L : List Ent) (e : Ent) (r : Ending) (w' : World) : Prop :=
  r = .returned (.iface 32 e.val) ∧ ∃ v' L', v'.ownBlock = v.ownBlock ∧ HRep w' lb mb v' L' ∧ L.Perm (e :: L') ∧ Only (fun c => c = mb ∨ c = lb ∨ some c = v.ownBlock) w w'

/-- The end of Pop and of Remove: what stands last is taken. -/
theorem pop_end {w1 : World} {lb mb : Nat} {v : Value} {L L2 : List Ent} {m2 : List (Nm × Value)} {n : Nat} {e : Ent} (hl : L2.length = n + 1) (hn : n < 1000) (hlast : L2[n]? = some e) (hrep : LRep w1 lb mb v L2 m2) (hcons : Cons L2 m2) (hheap : HeapTo (fn L2) n) (hperm : L2.Perm L)
    {w : World} (ho : Only (fun c => c = mb ∨ v.ownBlock = some c) w w1) :
    Calls Try.prog 40 #[.pointer (some ⟨lb, 0, none⟩)] w1 (PopR w lb mb v L e) := by
  have hs := snoc_of hl hlast
  have hlt : (L2.take n).length = n := by rw [List.length_take]; omega
  rw [hs] at hrep hcons hperm
  refine (pop_any hrep (by omega)).mono ?_
  rintro r w2 ⟨rfl, v', hv', hrep2, ho2⟩
  refine ⟨rfl, v', L2.take n, hv', ⟨⟨_, hrep2, hcons.pop⟩, ?_⟩, ?_, ?_⟩
  · rw [hlt]
    refine hheap.mono (Nat.le_refl _) fun i hi => fn_congr ?_
    rw [List.getElem?_take, if_pos hi]
  · exact hperm.symm.trans List.perm_append_comm
  · refine (ho.mono fun c _ h => ?_).trans ho2 fun c _ h => ?_
    · exact h.elim .inl fun h => .inr (.inr h.symm)
    · exact h.elim .inl fun h => .inr (.inl h)

set_option maxHeartbeats 1000000 in
set_option maxRecDepth 100000 in
theorem hpop_any {w : World} {lb mb : Nat} {v : Value} {L : List Ent} (h : HRep w lb mb v L) (hn : L.length ≤ 1000) (h0 : 0 < L.length) :
    Calls Try.prog 16 #[.iface 47 (.pointer (some ⟨lb, 0, none⟩))] w (PopR w lb mb v L (fn L 0)) := by
  obtain ⟨⟨m, hrep, hcons⟩, hheap⟩ := h
  obtain ⟨n, hl⟩ : ∃ n, L.length = n + 1 := ⟨L.length - 1, by omega⟩
  have ha : L[0]? = some (fn L 0) := at_fn h0
  have hb : L[n]? = some (fn L n) := at_fn (by omega)
  have hn0 := Lib.hid hl
  have hn' : n ≤ 1000 := by omega
  go_enter Try.func16, Try.ntmps16
  go_wp2_with fail
  refine (len_any hrep).mono ?_
  rintro r _ ⟨rfl, rfl⟩
  rw [hl]
  have Ha := Lib.hid ha
  have Hb := Lib.hid hb
  have q : ((n + 1 : Nat) : Int) - 1 = (n : Int) := by omega
  clear hl ha hb
  go_wp2_with fail
  have hsw := swap_any (i := 0) (k := n) hrep hn Ha.out Hb.out
  rw [show ((0 : Nat) : Int) = 0 from rfl] at hsw
  refine hsw.mono ?_
  clear hsw
  rintro r w1 ⟨rfl, hrep1, ho1⟩
  have hc1 := hcons.swp Ha.out Hb.out
  have hp1 := swp_perm Ha.out Hb.out
  have hl1 : (swp L 0 n (fn L 0) (fn L n)).length = n + 1 := (swp_length ..).trans hn0.out
  have Hl1 := Lib.hid hl1
  clear hl1
  go_wp2_with fail
  have hdn := down_any (i := 0) (n := n) hrep1 hc1 (by rw [Hl1.out, ← hn0.out]; exact hn) (Nat.zero_le _) (by rw [Hl1.out]; omega) ⟨?_, fun _ _ _ _ h => absurd h (by omega)⟩
  rotate_left
  · intro i h0 hi hne hpe
    unfold okp
    rw [fn_swp Ha.out Hb.out, sw_same _ _ _ _ hne (by omega), sw_same _ _ _ _ hpe (by unfold par at *; omega)]
    exact hheap i h0 (by rw [hn0.out]; omega)
  rw [show ((0 : Nat) : Int) = 0 from rfl] at hdn
  refine hdn.mono ?_
  clear hdn
  rintro r w2 ⟨b, rfl, L2, m2, hrep2, hcons2, hperm2, hsame2, ⟨ht, hf⟩, ho2⟩
  have hheap2 : HeapTo (fn L2) n := by
    cases b with
    | true => exact ht rfl
    | false =>
      obtain ⟨rfl, hu⟩ := hf rfl
      exact heap_up_done hu (.inl rfl)
  have hlast : L2[n]? = some (fn L 0) := by rw [hsame2 n (Nat.le_refl _)]; exact swp_k Hb.out
  have hl2 : L2.length = n + 1 := hperm2.length_eq.trans Hl1.out
  have Hlast := Lib.hid hlast
  have Hl2 := Lib.hid hl2
  clear hlast hl2 ht hf
  go_wp2_with fail
  refine (pop_end Hl2.out (by have := hn0.out; omega) Hlast.out hrep2 hcons2 hheap2 (hperm2.trans hp1) (ho1.trans' ho2)).mono ?_
  rintro r w3 ⟨rfl, hr⟩
  go_wp2
  go_ret
  exact ⟨rfl, hr⟩

def FixR (w : World) (lb mb : Nat) (v : Value) (L : List Ent) (r : Ending) (w' : World) : Prop :=
  r = .returned (.tuple #[]) ∧ ∃ L', HRep w' lb mb v L' ∧ L'.Perm L ∧ Only (fun c => c = mb ∨ v.ownBlock = some c) w w'

set_option maxHeartbeats 1000000 in
set_option maxRecDepth 100000 in
theorem hfix_any {w : World} {lb mb : Nat} {v : Value} {L : List Ent} {m : List (Nm × Value)} (hrep : LRep w lb mb v L m) (hcons : Cons L m) (hn : L.length ≤ 1000) {i : Nat} (hi : i < L.length) (ha : AtI (fn L) L.length i) :
    Calls Try.prog 14 #[.iface 47 (.pointer (some ⟨lb, 0, none⟩)), .int .i64 (i : Int)] w (FixR w lb mb v L) := by
  go_enter Try.func14, Try.ntmps14
  go_wp2_with fail
  refine (len_any hrep).mono ?_
  rintro r _ ⟨rfl, rfl⟩
  go_wp2_with fail
  refine (down_any hrep hcons hn (by omega) (Nat.le_refl _) ha).mono ?_
  rintro r w2 ⟨b, rfl, L2, m2, hrep2, hcons2, hperm2, hsame2, ⟨ht, hf⟩, ho2⟩
  cases b with
  | true =>
    have hheap2 := ht rfl
    clear ht hf
    go_wp2
    go_end0
    exact ⟨rfl, L2, ⟨⟨m2, hrep2, hcons2⟩, by rw [hperm2.length_eq]; exact hheap2⟩, hperm2, ho2⟩
  | false =>
    obtain ⟨rfl, hu⟩ := hf rfl
    clear ht hf
    go_wp2_with fail
    refine (up_any hrep2 hcons2 hn hi (Nat.le_refl _) hu).mono ?_
    rintro r w3 ⟨rfl, L3, m3, hrep3, hcons3, hperm3, _, hheap3, ho3⟩
    go_wp2
    go_end0
    exact ⟨rfl, L3, ⟨⟨m3, hrep3, hcons3⟩, by rw [hperm3.length_eq]; exact hheap3⟩, hperm3, ho2.trans' ho3⟩

set_option maxHeartbeats 1000000 in
set_option maxRecDepth 100000 in
theorem hremove_any {w : World} {lb mb : Nat} {v : Value} {L : List Ent} (h : HRep w lb mb v L) (hn : L.length ≤ 1000) {i : Nat} (hi : i < L.length) :
    Calls Try.prog 17 #[.iface 47 (.pointer (some ⟨lb, 0, none⟩)), .int .i64 (i : Int)] w (PopR w lb mb v L (fn L i)) := by
  obtain ⟨⟨m, hrep, hcons⟩, hheap⟩ := h
  obtain ⟨n, hl⟩ : ∃ n, L.length = n + 1 := ⟨L.length - 1, by omega⟩
  have ha : L[i]? = some (fn L i) := at_fn hi
  have hb : L[n]? = some (fn L n) := at_fn (by omega)
  have hn0 := Lib.hid hl
  have hn' : n ≤ 1000 := by omega
  have Ha := Lib.hid ha
  have Hb := Lib.hid hb
  have q : ((n + 1 : Nat) : Int) - 1 = (n : Int) := by omega
  by_cases hin : n = i
  · subst hin
    have hne : ((n : Int) != (n : Int)) = false := by simp
    go_enter Try.func17, Try.ntmps17
    go_wp2_with fail
    refine (len_any hrep).mono ?_
    rintro r _ ⟨rfl, rfl⟩
    rw [hl]
    clear hl ha hb
    go_wp2_with fail
    refine (pop_end (L := L) hn0.out (by have := hn0.out; omega) Ha.out hrep hcons (hheap.mono (by rw [hn0.out]; omega) fun _ _ => rfl) (List.Perm.refl _) (Only.refl _ _)).mono ?_
    rintro r w3 ⟨rfl, hr⟩
    go_wp2
    go_ret
    exact ⟨rfl, hr⟩
  · have hne : ((n : Int) != (i : Int)) = true := by rw [bne_iff_ne]; omega
    have hil : i < n := by omega
    go_enter Try.func17, Try.ntmps17
    go_wp2_with fail
    refine (len_any hrep).mono ?_
    rintro r _ ⟨rfl, rfl⟩
    rw [hl]
    clear hl ha hb
    go_wp2_with fail
    refine (swap_any (i := i) (k := n) hrep hn Ha.out Hb.out).mono ?_
    rintro r w1 ⟨rfl, hrep1, ho1⟩
    have hc1 := hcons.swp Ha.out Hb.out
    have hp1 := swp_perm Ha.out Hb.out
    have Hl1 : Hid ((swp L i n (fn L i) (fn L n)).length = n + 1) := (swp_length ..).trans hn0.out
    go_wp2_with fail
    refine (down_any (i := i) (n := n) hrep1 hc1 (by rw [Hl1.out, ← hn0.out]; exact hn) (by omega) (by rw [Hl1.out]; omega) ⟨?_, ?_⟩).mono ?_
    · intro t h0 ht hne hpe
      unfold okp
      rw [fn_swp Ha.out Hb.out, sw_same _ _ _ _ hne (by omega), sw_same _ _ _ _ hpe (by unfold par at *; omega)]
      exact hheap t h0 (by rw [hn0.out]; omega)
    · intro t h0 ht hpe hi0
      have hpt : i < t := by unfold par at hpe; omega
      have hpi : par i < i := by unfold par; omega
      unfold okp
      rw [fn_swp Ha.out Hb.out, sw_same _ _ _ _ (by omega) (by omega), sw_same _ _ _ _ (by omega) (by omega)]
      have h1 := hheap t h0 (by rw [hn0.out]; omega)
      unfold okp at h1
      rw [hpe] at h1
      exact bef_trans h1 (hheap i hi0 hi)
    rintro r w2 ⟨b, rfl, L2, m2, hrep2, hcons2, hperm2, hsame2, ⟨ht, hf⟩, ho2⟩
    have Hlast : Hid (L2[n]? = some (fn L i)) := by show _ = _; rw [hsame2 n (Nat.le_refl _)]; exact swp_k Hb.out
    have Hl2 : Hid (L2.length = n + 1) := hperm2.length_eq.trans Hl1.out
    cases b with
    | true =>
      have hheap2 := ht rfl
      clear ht hf
      go_wp2_with fail
      refine (pop_end Hl2.out (by have := hn0.out; omega) Hlast.out hrep2 hcons2 hheap2 (hperm2.trans hp1) (ho1.trans' ho2)).mono ?_
      rintro r w3 ⟨rfl, hr⟩
      go_wp2
      go_ret
      exact ⟨rfl, hr⟩
    | false =>
      obtain ⟨rfl, hu⟩ := hf rfl
      clear ht hf
      go_wp2_with fail
      refine (up_any (n := n) (j := i) hrep2 hcons2 (by rw [Hl2.out, ← hn0.out]; exact hn) hil (by rw [Hl2.out]; omega) hu).mono ?_
      rintro r w3 ⟨rfl, L3, m3, hrep3, hcons3, hperm3, hsame3, hheap3, ho3⟩
      have Hlast3 : Hid (L3[n]? = some (fn L i)) := by show _ = _; rw [hsame3 n (Nat.le_refl _)]; exact Hlast.out
      have Hl3 : Hid (L3.length = n + 1) := hperm3.length_eq.trans Hl2.out
      go_wp2_with fail
      refine (pop_end Hl3.out (by have := hn0.out; omega) Hlast3.out hrep3 hcons3 hheap3 ((hperm3.trans hperm2).trans hp1) ((ho1.trans' ho2).trans' ho3)).mono ?_
      rintro r w4 ⟨rfl, hr⟩
      go_wp2
      go_ret
      exact ⟨rfl, hr⟩
end Go.Proofs.Ytgabgdeakeliaaa
