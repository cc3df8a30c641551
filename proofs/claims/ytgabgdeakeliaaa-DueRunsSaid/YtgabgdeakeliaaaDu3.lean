/- due: the map says where each stands, whatever is done to the list. -/
import Derived.Test.YtgabgdeakeliaaaDu2
namespace Go.Proofs.Ytgabgdeakeliaaa
open Go.RowKit Go.Dm

theorem LRep.quiet {w w' : World} {lb mb : Nat} {v : Value} {L : List Ent} {m : List (Nm × Value)} (h : LRep w lb mb v L m) (ho : Only (fun _ => False) w w') : LRep w' lb mb v L m :=
  ⟨ho.blk h.head id, ownsRow_only h.row ho (fun _ _ h => h), h.map.only ho id⟩
theorem LRep.only {S : Nat → Prop} {w w' : World} {lb mb : Nat} {v : Value} {L : List Ent} {m : List (Nm × Value)} (h : LRep w lb mb v L m) (ho : Only S w w') (h1 : ¬ S lb) (h2 : ¬ S mb) (h3 : ∀ k, v.ownBlock = some k → ¬ S k) : LRep w' lb mb v L m :=
  ⟨ho.blk h.head h1, ownsRow_only h.row ho h3, h.map.only ho h2⟩

def e0 : Ent := ⟨0, 0, 0, 0⟩
def fn (L : List Ent) : Nat → Ent := fun i => L.getD i e0
theorem fn_at {L : List Ent} {i : Nat} {a : Ent} (h : L[i]? = some a) : fn L i = a := by simp [fn, List.getD_eq_getElem?_getD, h]
theorem at_fn {L : List Ent} {i : Nat} (h : i < L.length) : L[i]? = some (fn L i) := by simp [fn, List.getD_eq_getElem?_getD, h]
theorem swp_at {L : List Ent} {i k : Nat} {a b : Ent} (hi : L[i]? = some a) (hk : L[k]? = some b) (t : Nat) : (swp L i k a b)[t]? = if t = k then some a else if t = i then some b else L[t]? := by
  by_cases h1 : t = k
  · subst h1; rw [if_pos rfl]; exact swp_k hk
  · rw [if_neg h1]
    by_cases h2 : t = i
    · subst h2; rw [if_pos rfl]; exact swp_i hi hk
    · rw [if_neg h2]
      have h1' : ¬ k = t := fun e => h1 e.symm
      have h2' : ¬ i = t := fun e => h2 e.symm
      simp [swp, h1', h2']
theorem fn_swp {L : List Ent} {i k : Nat} {a b : Ent} (hi : L[i]? = some a) (hk : L[k]? = some b) : fn (swp L i k a b) = sw (fn L) i k := by
  funext t
  unfold sw
  simp only [fn, List.getD_eq_getElem?_getD, swp_at hi hk, hi, hk]
  split
  · rfl
  · split <;> rfl

theorem nm_at_inj {L : List Ent} (h : (L.map Ent.nm).Nodup) {i j : Nat} {a b : Ent} (hi : L[i]? = some a) (hj : L[j]? = some b) (hab : a.nm = b.nm) : i = j := by
  obtain ⟨h1, h2⟩ := List.getElem?_eq_some_iff.1 hi
  obtain ⟨h3, h4⟩ := List.getElem?_eq_some_iff.1 hj
  refine (List.getElem_inj (h₀ := by simpa using h1) (h₁ := by simpa using h3) h).1 ?_
  simp [h2, h4, hab]

theorem perm_of_at {L L' : List Ent} (h : ∀ x, L'.count x = L.count x) : L'.Perm L := List.perm_iff_count.2 h

theorem set_perm {L : List Ent} {i : Nat} {a : Ent} (hi : L[i]? = some a) (x : Ent) : (a :: L.set i x).Perm (x :: L) := by
  induction L generalizing i with
  | nil => simp at hi
  | cons y L ih =>
    cases i with
    | zero =>
      simp at hi
      subst hi
      exact List.Perm.swap _ _ _
    | succ i =>
      have := ih (i := i) (by simpa using hi)
      show (a :: y :: L.set i x).Perm (x :: y :: L)
      exact ((List.Perm.swap y a _).trans (this.cons y)).trans (List.Perm.swap x y _)

theorem swp_perm {L : List Ent} {i k : Nat} {a b : Ent} (hi : L[i]? = some a) (hk : L[k]? = some b) : (swp L i k a b).Perm L := by
  have h1 := set_perm hi b
  have hk' : (L.set i b)[k]? = some (if k = i then b else b) := by
    rw [List.getElem?_set]
    have hl := (List.getElem?_eq_some_iff.1 hi).1
    by_cases h : i = k
    · subst h; simp [hl]
    · simp [h, hk]
  simp only [ite_self] at hk'
  have h2 := set_perm hk' a
  -- b :: swp ~ a :: L.set i b ~ b :: L
  exact (h2.trans h1).cons_inv

theorem Cons.swp {L : List Ent} {m : List (Nm × Value)} (h : Cons L m) {i k : Nat} {a b : Ent} (hi : L[i]? = some a) (hk : L[k]? = some b) :
    Cons (swp L i k a b) (aput (aput m b.nm (.int .i64 (i : Int))) a.nm (.int .i64 (k : Int))) := by
  obtain ⟨hn, hm⟩ := h
  refine ⟨((swp_perm hi hk).map _).nodup_iff.2 hn, fun n v => ?_⟩
  rw [aget_aput, aget_aput]
  constructor
  · intro hv
    split at hv
    · rename_i e
      exact ⟨k, a, swp_k hk, e.symm, (Option.some.inj hv).symm⟩
    · rename_i e1
      split at hv
      · rename_i e2
        exact ⟨i, b, swp_i hi hk, e2.symm, (Option.some.inj hv).symm⟩
      · rename_i e2
        obtain ⟨t, e, ht, he, rfl⟩ := (hm n v).1 hv
        refine ⟨t, e, ?_, he, rfl⟩
        rw [swp_at hi hk, if_neg, if_neg, ht]
        · rintro rfl; rw [hi] at ht; injection ht with ht; subst ht; exact e1 he.symm
        · rintro rfl; rw [hk] at ht; injection ht with ht; subst ht; exact e2 he.symm
  · rintro ⟨t, e, ht, rfl, rfl⟩
    rw [swp_at hi hk] at ht
    split at ht
    · rename_i e1
      injection ht with ht; subst ht; subst e1
      rw [if_pos rfl]
    · rename_i e1
      split at ht
      · rename_i e2
        injection ht with ht; subst ht; subst e2
        have : ¬ b.nm = a.nm := fun e => e1 (nm_at_inj hn hi hk e.symm)
        rw [if_neg this, if_pos rfl]
      · rename_i e2
        have n1 : ¬ e.nm = a.nm := fun e' => e2 (nm_at_inj hn ht hi e')
        have n2 : ¬ e.nm = b.nm := fun e' => e1 (nm_at_inj hn ht hk e')
        rw [if_neg n1, if_neg n2]
        exact (hm _ _).2 ⟨t, e, ht, rfl, rfl⟩

theorem Cons.push {L : List Ent} {m : List (Nm × Value)} (h : Cons L m) {e : Ent} (he : ∀ x ∈ L, x.nm ≠ e.nm) : Cons (L ++ [e]) (aput m e.nm (.int .i64 (L.length : Int))) := by
  obtain ⟨hn, hm⟩ := h
  refine ⟨?_, fun n v => ?_⟩
  · rw [List.map_append, List.nodup_append]
    refine ⟨hn, by simp, fun x hx y hy hxy => ?_⟩
    simp only [List.map_cons, List.map_nil, List.mem_singleton] at hy
    obtain ⟨z, hz, rfl⟩ := List.mem_map.1 hx
    exact he z hz (hxy.trans hy)
  · rw [aget_aput]
    constructor
    · intro hv
      split at hv
      · rename_i e1
        exact ⟨L.length, e, by simp, e1.symm, (Option.some.inj hv).symm⟩
      · obtain ⟨t, x, ht, hx, rfl⟩ := (hm n v).1 hv
        exact ⟨t, x, by rw [List.getElem?_append_left (List.getElem?_eq_some_iff.1 ht).1]; exact ht, hx, rfl⟩
    · rintro ⟨t, x, ht, rfl, rfl⟩
      rw [List.getElem?_append] at ht
      split at ht
      · rename_i hlt
        have : ¬ x.nm = e.nm := he x (List.mem_of_getElem? ht)
        rw [if_neg this]
        exact (hm _ _).2 ⟨t, x, ht, rfl, rfl⟩
      · rename_i hge
        have ht0 : t - L.length = 0 := by
          rcases Nat.eq_zero_or_pos (t - L.length) with h | h
          · exact h
          · rw [List.getElem?_eq_none (by simp; omega)] at ht; cases ht
        rw [ht0] at ht
        simp at ht
        subst ht
        rw [if_pos rfl]
        congr 3
        omega

theorem Cons.pop {L : List Ent} {e : Ent} {m : List (Nm × Value)} (h : Cons (L ++ [e]) m) : Cons L (adel m e.nm) := by
  obtain ⟨hn, hm⟩ := h
  have hlast : (L ++ [e])[L.length]? = some e := by simp
  refine ⟨?_, fun n v => ?_⟩
  · rw [List.map_append] at hn; exact (List.nodup_append.1 hn).1
  · rw [aget_adel]
    constructor
    · intro hv
      split at hv
      · cases hv
      · rename_i hne
        obtain ⟨t, x, ht, hx, rfl⟩ := (hm n v).1 hv
        have htl : t ≠ L.length := by rintro rfl; rw [hlast] at ht; injection ht with ht; subst ht; exact hne hx.symm
        have htl2 := (List.getElem?_eq_some_iff.1 ht).1
        simp at htl2
        exact ⟨t, x, by rw [List.getElem?_append_left (by omega)] at ht; exact ht, hx, rfl⟩
    · rintro ⟨t, x, ht, rfl, rfl⟩
      have htl := (List.getElem?_eq_some_iff.1 ht).1
      have ht' : (L ++ [e])[t]? = some x := by rw [List.getElem?_append_left htl]; exact ht
      have : ¬ x.nm = e.nm := fun e' => by have := nm_at_inj hn ht' hlast e'; omega
      rw [if_neg this]
      exact (hm _ _).2 ⟨t, x, ht', rfl, rfl⟩

theorem Cons.turn {L : List Ent} {m : List (Nm × Value)} (h : Cons L m) {i : Nat} {e e' : Ent} (hi : L[i]? = some e) (hn : e'.nm = e.nm) : Cons (L.set i e') m := by
  obtain ⟨hd, hm⟩ := h
  have hlen := (List.getElem?_eq_some_iff.1 hi).1
  have hmap : (L.set i e').map Ent.nm = L.map Ent.nm := by
    refine List.ext_getElem? fun t => ?_
    rw [List.getElem?_map, List.getElem?_map, List.getElem?_set]
    by_cases ht : i = t
    · subst ht; simp [hlen, hn]; rw [(List.getElem?_eq_some_iff.1 hi).2]
    · simp [ht]
  refine ⟨by rw [hmap]; exact hd, fun n v => (hm n v).trans ?_⟩
  constructor
  · rintro ⟨t, x, ht, rfl, rfl⟩
    by_cases hti : i = t
    · subst hti
      rw [hi] at ht; injection ht with ht; subst ht
      exact ⟨i, e', by simp [hlen], hn, rfl⟩
    · exact ⟨t, x, by rw [List.getElem?_set]; simp [hti, ht], rfl, rfl⟩
  · rintro ⟨t, x, ht, rfl, rfl⟩
    rw [List.getElem?_set] at ht
    by_cases hti : i = t
    · subst hti
      simp [hlen] at ht
      subst ht
      exact ⟨i, e, hi, hn.symm, rfl⟩
    · simp [hti] at ht
      exact ⟨t, x, ht, rfl, rfl⟩
end Go.Proofs.Ytgabgdeakeliaaa
