/- script, plain: a step as a line, and back. -/
import Derived.Test.YtcocmljollnpdaaDoorSc6
namespace Go.Proofs.YtcocmljollnpdaaDoor
open Go Go.RowKit Go.Dm
set_option linter.unusedVariables false
set_option linter.unusedSimpArgs false

def lineW (s : Stp) : Option (List (List UInt8)) :=
  if s.kind = 1 then (if 1 ≤ s.ck ∧ s.ck ≤ 6 then some [stepsT.getD 1 [], Lib.itoa s.node, Lib.itoa s.sess, Lib.itoa s.req, callsT.getD s.ck.toNat [], hexL s.key, hexL s.val] else none)
  else if s.kind = 9 then some [stepsT.getD 9 [], Lib.itoa s.node, Lib.itoa s.n, Lib.itoa s.tear, bitsL s.keep]
  else if s.kind = 7 then some [stepsT.getD 7 [], Lib.itoa s.node, Lib.itoa s.n]
  else if s.kind = 6 ∨ s.kind = 8 then some [stepsT.getD s.kind.toNat [], Lib.itoa s.node]
  else if 2 ≤ s.kind ∧ s.kind ≤ 5 then some [stepsT.getD s.kind.toNat [], Lib.itoa s.at_]
  else none
def lineL (s : Stp) : Option (List UInt8) := (lineW s).map (jn 32)
def onlyS (s : Stp) : Stp :=
  if s.kind = 1 then ⟨s.kind, s.node, s.sess, s.req, s.ck, s.key, s.val, 0, 0, [], 0⟩
  else if 2 ≤ s.kind ∧ s.kind ≤ 5 then ⟨s.kind, 0, 0, 0, 0, [], [], s.at_, 0, [], 0⟩
  else if s.kind = 7 then ⟨s.kind, s.node, 0, 0, 0, [], [], 0, s.n, [], 0⟩
  else if s.kind = 9 then ⟨s.kind, s.node, 0, 0, 0, [], [], 0, s.n, s.keep, s.tear⟩
  else ⟨s.kind, s.node, 0, 0, 0, [], [], 0, 0, [], 0⟩
/-- The numbers of a step are ints. -/
structure Fit (s : Stp) : Prop where
  kind : I64 s.kind
  node : I64 s.node
  sess : I64 s.sess
  req : I64 s.req
  ck : I64 s.ck
  at_ : I64 s.at_
  n : I64 s.n
  tear : I64 s.tear
theorem itoa32 (n : Int) : (32 : UInt8) ∉ Lib.itoa n := itoa_no (by decide) n
theorem itoa10 (n : Int) : (10 : UInt8) ∉ Lib.itoa n := itoa_no (by decide) n
theorem kind_find {w : List UInt8} : ∀ (T : List (List UInt8)) (i : Nat), kindFrom w i T ≠ 0 → i ≤ kindFrom w i T ∧ T.getD (kindFrom w i T - i) [] = w
  | [], i, h => absurd rfl h
  | x :: r, i, h => by
    unfold kindFrom at h ⊢
    split at h
    · rename_i hx
      rw [if_pos hx]
      exact ⟨Nat.le_refl _, by rw [Nat.sub_self]; exact hx.2⟩
    · rename_i hx
      rw [if_neg hx]
      obtain ⟨h1, h2⟩ := kind_find r (i + 1) h
      refine ⟨by omega, ?_⟩
      obtain ⟨d, hd⟩ : ∃ d, kindFrom w (i + 1) r - i = d + 1 := ⟨kindFrom w (i + 1) r - (i + 1), by omega⟩
      rw [hd, List.getD_cons_succ, ← h2]
      congr 1
      omega
theorem kindL_find {T : List (List UInt8)} {w : List UInt8} (h : kindL T w ≠ 0) : T.getD (kindL T w) [] = w := (kind_find T 0 h).2

theorem word_no {b : UInt8} (hb : b = 32 ∨ b = 10) {k : Nat} : b ∉ stepsT.getD k [] := by
  have h : ∀ w ∈ [] :: stepsT, (32 : UInt8) ∉ w ∧ (10 : UInt8) ∉ w := by decide
  have hm : stepsT.getD k [] ∈ [] :: stepsT := by
    rw [List.getD_eq_getElem?_getD]
    cases hx : stepsT[k]? with
    | none => simp
    | some x => exact List.mem_cons_of_mem _ (List.mem_of_getElem? hx)
  rcases hb with rfl | rfl
  · exact (h _ hm).1
  · exact (h _ hm).2
theorem call_no {b : UInt8} (hb : b = 32 ∨ b = 10) {k : Nat} : b ∉ callsT.getD k [] := by
  have h : ∀ w ∈ [] :: callsT, (32 : UInt8) ∉ w ∧ (10 : UInt8) ∉ w := by decide
  have hm : callsT.getD k [] ∈ [] :: callsT := by
    rw [List.getD_eq_getElem?_getD]
    cases hx : callsT[k]? with
    | none => simp
    | some x => exact List.mem_cons_of_mem _ (List.mem_of_getElem? hx)
  rcases hb with rfl | rfl
  · exact (h _ hm).1
  · exact (h _ hm).2
theorem line_no {b : UInt8} (hb : b = 32 ∨ b = 10) {s : Stp} {ws : List (List UInt8)} (h : lineW s = some ws) : ws ≠ [] ∧ ∀ w ∈ ws, b ∉ w := by
  have hi : ∀ n, b ∉ Lib.itoa n := by rcases hb with rfl | rfl; exact itoa32; exact itoa10
  have h1 := fun k => word_no hb (k := k)
  have h2 := fun k => call_no hb (k := k)
  have h3 := fun l => hex_no hb l
  have h4 := fun l => bits_no hb l
  unfold lineW at h
  repeat' split at h
  all_goals first
    | (injection h with h; subst h; refine ⟨by simp, fun w hw => ?_⟩; simp only [List.mem_cons, List.not_mem_nil, or_false] at hw; rcases hw with rfl | rfl | rfl | rfl | rfl | rfl | rfl <;> first | exact hi _ | exact h1 _ | exact h2 _ | exact h3 _ | exact h4 _)
    | (injection h with h; subst h; refine ⟨by simp, fun w hw => ?_⟩; simp only [List.mem_cons, List.not_mem_nil, or_false] at hw; rcases hw with rfl | rfl | rfl | rfl | rfl <;> first | exact hi _ | exact h1 _ | exact h2 _ | exact h3 _ | exact h4 _)
    | (injection h with h; subst h; refine ⟨by simp, fun w hw => ?_⟩; simp only [List.mem_cons, List.not_mem_nil, or_false] at hw; rcases hw with rfl | rfl | rfl <;> first | exact hi _ | exact h1 _ | exact h2 _ | exact h3 _ | exact h4 _)
    | (injection h with h; subst h; refine ⟨by simp, fun w hw => ?_⟩; simp only [List.mem_cons, List.not_mem_nil, or_false] at hw; rcases hw with rfl | rfl <;> first | exact hi _ | exact h1 _ | exact h2 _ | exact h3 _ | exact h4 _)
    | cases h

theorem line_end {s : Stp} {t : List UInt8} (h : lineL s = some t) : (10 : UInt8) ∉ t := by
  unfold lineL at h
  obtain ⟨ws, hw, rfl⟩ := Option.map_eq_some_iff.1 h
  obtain ⟨hne, hn⟩ := line_no (.inr rfl) hw
  clear h hw
  induction ws with
  | nil => exact absurd rfl hne
  | cons w r ih =>
    cases r with
    | nil => rw [jn_one]; exact hn w (by simp)
    | cons v r =>
      rw [jn_cons]
      intro hm
      rw [List.mem_append, List.mem_cons] at hm
      rcases hm with h | h | h
      · exact hn w (by simp) h
      · exact absurd h (by decide)
      · exact ih (by simp) (fun x hx => hn x (by simp [hx])) h

theorem nums1 {a : Int} (h : I64 a) : numsL [Lib.itoa a] = some [a] := by simp [numsL, num_itoa a h]
theorem nums2 {a b : Int} (h : I64 a) (h2 : I64 b) : numsL [Lib.itoa a, Lib.itoa b] = some [a, b] := by simp [numsL, num_itoa a h, num_itoa b h2]
theorem nums3 {a b c : Int} (h : I64 a) (h2 : I64 b) (h3 : I64 c) : numsL [Lib.itoa a, Lib.itoa b, Lib.itoa c] = some [a, b, c] := by simp [numsL, num_itoa a h, num_itoa b h2, num_itoa c h3]

theorem stepW_of {ws : List (List UInt8)} {k n : Nat} {ns : List Int} (hk : kindL stepsT (ws.getD 0 []) = k) (k0 : k ≠ 0) (hn : countOf k = n) (hl : ws.length = n) (hm : numsL ((ws.take (min n 4)).drop 1) = some ns) : stepW ws = stepN k ns ws := by
  unfold stepW
  rw [hk, hn, if_neg (by simp [k0, hl]), hm]; rfl

theorem kind_of : ∀ k : Fin 9, kindL stepsT (stepsT.getD (k.val + 1) []) = k.val + 1 := by decide
theorem call_of : ∀ k : Fin 6, kindL callsT (callsT.getD (k.val + 1) []) = k.val + 1 := by decide

theorem step_lineW {s : Stp} (hf : Fit s) {ws : List (List UInt8)} (h : lineW s = some ws) : stepW ws = some (onlyS s) := by
  obtain ⟨kind, node, sess, req, ck, key, val, at_, n, keep, tear⟩ := s
  obtain ⟨f1, f2, f3, f4, f5, f6, f7, f8⟩ := hf
  simp only at f1 f2 f3 f4 f5 f6 f7 f8
  unfold lineW at h
  unfold onlyS
  simp only at h ⊢
  by_cases k1 : kind = 1
  · rw [if_pos k1] at h ⊢
    subst k1
    by_cases hc : 1 ≤ ck ∧ ck ≤ 6
    · rw [if_pos hc] at h
      injection h with h; subst h
      obtain ⟨c, rfl⟩ : ∃ c : Nat, ck = (c : Int) + 1 := ⟨(ck - 1).toNat, by omega⟩
      have hcc : ((c : Int) + 1).toNat = c + 1 := by omega
      have hc6 : c < 6 := by omega
      have hcl : kindL callsT (callsT.getD (c + 1) []) = c + 1 := call_of ⟨c, hc6⟩
      rw [hcc]
      refine Eq.trans (stepW_of (k := 1) (n := 7) (kind_of ⟨0, by omega⟩) (by decide) rfl rfl (nums3 f2 f3 f4)) ?_
      show callW _ _ = _
      unfold callW
      show (match unhexL (hexL key), unhexL (hexL val) with
        | some a, some b => if 0 < kindL callsT (callsT.getD (c + 1) []) then some (Stp.mk 1 node sess req (kindL callsT (callsT.getD (c + 1) [])) a b 0 0 [] 0) else none
        | _, _ => none) = _
      rw [unhex_hex, unhex_hex, hcl]
      simp
    · rw [if_neg hc] at h; cases h
  · rw [if_neg k1] at h ⊢
    by_cases k9 : kind = 9
    · subst k9
      rw [if_pos rfl] at h
      rw [if_neg (by omega), if_neg (by omega), if_pos rfl]
      injection h with h; subst h
      refine Eq.trans (stepW_of (k := 9) (n := 5) (kind_of ⟨8, by omega⟩) (by decide) rfl rfl (nums3 f2 f7 f8)) ?_
      show (unbitsL (bitsL keep)).map _ = _
      rw [unbits_bits]; rfl
    · rw [if_neg k9] at h
      by_cases k7 : kind = 7
      · subst k7
        rw [if_pos rfl] at h
        rw [if_neg (by omega), if_pos rfl]
        injection h with h; subst h
        exact Eq.trans (stepW_of (k := 7) (n := 3) (kind_of ⟨6, by omega⟩) (by decide) rfl rfl (nums2 f2 f7)) rfl
      · rw [if_neg k7] at h
        by_cases k6 : kind = 6 ∨ kind = 8
        · rw [if_pos k6] at h
          rw [if_neg (by omega), if_neg (by omega), if_neg (by omega)]
          injection h with h; subst h
          rcases k6 with rfl | rfl
          · show stepW [stepsT.getD 6 [], _] = _
            exact Eq.trans (stepW_of (k := 6) (n := 2) (kind_of ⟨5, by omega⟩) (by decide) rfl rfl (nums1 f2)) rfl
          · show stepW [stepsT.getD 8 [], _] = _
            exact Eq.trans (stepW_of (k := 8) (n := 2) (kind_of ⟨7, by omega⟩) (by decide) rfl rfl (nums1 f2)) rfl
        · rw [if_neg k6] at h
          by_cases k2 : 2 ≤ kind ∧ kind ≤ 5
          · rw [if_pos k2] at h ⊢
            injection h with h; subst h
            obtain rfl | rfl | rfl | rfl : kind = 2 ∨ kind = 3 ∨ kind = 4 ∨ kind = 5 := by omega
            · show stepW [stepsT.getD 2 [], _] = _
              exact Eq.trans (stepW_of (k := 2) (n := 2) (kind_of ⟨1, by omega⟩) (by decide) rfl rfl (nums1 f6)) rfl
            · show stepW [stepsT.getD 3 [], _] = _
              exact Eq.trans (stepW_of (k := 3) (n := 2) (kind_of ⟨2, by omega⟩) (by decide) rfl rfl (nums1 f6)) rfl
            · show stepW [stepsT.getD 4 [], _] = _
              exact Eq.trans (stepW_of (k := 4) (n := 2) (kind_of ⟨3, by omega⟩) (by decide) rfl rfl (nums1 f6)) rfl
            · show stepW [stepsT.getD 5 [], _] = _
              exact Eq.trans (stepW_of (k := 5) (n := 2) (kind_of ⟨4, by omega⟩) (by decide) rfl rfl (nums1 f6)) rfl
          · rw [if_neg k2] at h; cases h

theorem step_line {s : Stp} (hf : Fit s) {t : List UInt8} (h : lineL s = some t) : stepL t = some (onlyS s) := by
  unfold lineL at h
  obtain ⟨ws, hw, rfl⟩ := Option.map_eq_some_iff.1 h
  obtain ⟨hne, hn⟩ := line_no (.inl rfl) hw
  unfold stepL
  rw [sp_jn hne hn]
  exact step_lineW hf hw

/-! Back. -/
theorem nums_cons {w : List UInt8} {r : List (List UInt8)} {ns : List Int} (h : numsL (w :: r) = some ns) : ∃ n m, ns = n :: m ∧ Lib.itoa n = w ∧ numsL r = some m := by
  unfold numsL at h
  split at h
  · cases h
  · rename_i n hn
    obtain ⟨m, hm, rfl⟩ := Option.map_eq_some_iff.1 h
    exact ⟨n, m, rfl, num_some hn, hm⟩
theorem nums_nil {ns : List Int} (h : numsL [] = some ns) : ns = [] := by injection h with h; exact h.symm
theorem steps_at {w : List UInt8} {k : Nat} (hk : kindL stepsT w = k) (h0 : k ≠ 0) : w = stepsT.getD k [] := by
  subst hk; exact (kindL_find h0).symm

theorem line_stepW {ws : List (List UInt8)} {s : Stp} (h : stepW ws = some s) : lineW s = some ws ∧ onlyS s = s := by
  unfold stepW at h
  generalize hk : kindL stepsT (ws.getD 0 []) = k at h
  split at h
  · cases h
  rename_i hc
  obtain ⟨k0, hl⟩ : k ≠ 0 ∧ ws.length = countOf k := by
    constructor
    · exact fun e => hc (.inl e)
    · exact Decidable.byContradiction fun e => hc (.inr e)
  have hw0 := steps_at hk k0
  have hk10 : k < 10 := by rw [← hk]; exact kindL_lt stepsT _ (by decide)
  obtain ⟨ns, hns, h'⟩ := Option.bind_eq_some_iff.1 h
  clear h
  have h := h'
  clear h'
  unfold stepN at h
  by_cases k1 : k = 1
  · subst k1
    rw [if_pos rfl] at h
    match ws, hl with
    | [w0, w1, w2, w3, w4, w5, w6], _ =>
      obtain ⟨n1, r1, rfl, e1, hns⟩ := nums_cons (show numsL [w1, w2, w3] = some ns from hns)
      obtain ⟨n2, r2, rfl, e2, hns⟩ := nums_cons hns
      obtain ⟨n3, r3, rfl, e3, hns⟩ := nums_cons hns
      unfold callW at h
      simp only [List.getD_cons_succ, List.getD_cons_zero] at h hw0
      split at h
      · rename_i a b ha hb
        by_cases h0 : 0 < kindL callsT w4
        · rw [if_pos h0] at h
          injection h with h; subst h
          have hlt : kindL callsT w4 < 7 := kindL_lt callsT w4 (by decide)
          have hf := kindL_find (T := callsT) (w := w4) (by omega)
          refine ⟨?_, rfl⟩
          unfold lineW
          simp only
          rw [if_pos trivial, if_pos (by omega), Int.toNat_natCast, hf, hex_unhex ha, hex_unhex hb, ← hw0, e1, e2, e3]
        · rw [if_neg h0] at h; cases h
      · cases h
  rw [if_neg k1] at h
  by_cases k9 : k = 9
  · subst k9
    rw [if_pos rfl] at h
    match ws, hl with
    | [w0, w1, w2, w3, w4], _ =>
      obtain ⟨n1, r1, rfl, e1, hns⟩ := nums_cons (show numsL [w1, w2, w3] = some ns from hns)
      obtain ⟨n2, r2, rfl, e2, hns⟩ := nums_cons hns
      obtain ⟨n3, r3, rfl, e3, hns⟩ := nums_cons hns
      simp only [List.getD_cons_succ, List.getD_cons_zero] at h hw0
      obtain ⟨l, hl, rfl⟩ := Option.map_eq_some_iff.1 h
      refine ⟨?_, rfl⟩
      show some [stepsT.getD 9 [], Lib.itoa n1, Lib.itoa n2, Lib.itoa n3, bitsL l] = _
      rw [← hw0, e1, e2, e3, bits_unbits hl]
  rw [if_neg k9] at h
  by_cases k7 : k = 7
  · subst k7
    rw [if_pos rfl] at h
    match ws, hl with
    | [w0, w1, w2], _ =>
      obtain ⟨n1, r1, rfl, e1, hns⟩ := nums_cons (show numsL [w1, w2] = some ns from hns)
      obtain ⟨n2, r2, rfl, e2, hns⟩ := nums_cons hns
      simp only [List.getD_cons_succ, List.getD_cons_zero] at h hw0
      injection h with h; subst h
      refine ⟨?_, rfl⟩
      show some [stepsT.getD 7 [], Lib.itoa n1, Lib.itoa n2] = _
      rw [← hw0, e1, e2]
  rw [if_neg k7] at h
  have hl2 : ws.length = 2 := by rw [hl]; unfold countOf; rw [if_neg k1, if_neg k7, if_neg k9]
  have hc2 : countOf k = 2 := by rw [← hl, hl2]
  rw [hc2] at hns
  match ws, hl2 with
  | [w0, w1], _ =>
    obtain ⟨n1, r1, rfl, e1, hns⟩ := nums_cons (show numsL [w1] = some ns from hns)
    simp only [List.getD_cons_succ, List.getD_cons_zero] at h hw0
    subst hw0
    subst e1
    split at h
    · rename_i k6
      injection h with h; subst h
      rcases k6 with rfl | rfl
      · exact ⟨rfl, rfl⟩
      · exact ⟨rfl, rfl⟩
    · rename_i k6
      injection h with h; subst h
      obtain rfl | rfl | rfl | rfl : k = 2 ∨ k = 3 ∨ k = 4 ∨ k = 5 := by omega
      all_goals exact ⟨rfl, rfl⟩

theorem line_step {t : List UInt8} {s : Stp} (h : stepL t = some s) : lineL s = some t ∧ onlyS s = s := by
  obtain ⟨h1, h2⟩ := line_stepW h
  refine ⟨?_, h2⟩
  unfold lineL
  rw [h1]
  exact congrArg some (jn_sp 32 t)
/-- The numbers of what a line says are ints. -/
theorem nums_mem : ∀ {ws : List (List UInt8)} {ns : List Int}, numsL ws = some ns → ∀ i, I64 (ns.getD i 0) := by
  intro ws
  induction ws with
  | nil => intro ns h i; rw [nums_nil h]; simp [I64]
  | cons w r ih =>
    intro ns h i
    have hh := h
    unfold numsL at h
    split at h
    · cases h
    · rename_i n hn
      obtain ⟨m, hm, rfl⟩ := Option.map_eq_some_iff.1 h
      cases i with
      | zero => exact num_range hn
      | succ i => rw [List.getD_cons_succ]; exact ih hm i
theorem step_fit {t : List UInt8} {s : Stp} (h : stepL t = some s) : Fit s := by
  unfold stepL stepW at h
  generalize hk : kindL stepsT ((sp 32 t).getD 0 []) = k at h
  split at h
  · cases h
  have hk10 : k < 10 := by rw [← hk]; exact kindL_lt stepsT _ (by decide)
  obtain ⟨ns, hns, h'⟩ := Option.bind_eq_some_iff.1 h
  clear h
  have h := h'
  clear h'
  have hi := nums_mem hns
  have z : I64 0 := by simp [I64]
  have zk : I64 (k : Int) := by unfold I64; omega
  unfold stepN at h
  split at h
  · unfold callW at h
    split at h
    · split at h
      · injection h with h; subst h
        have hlt : kindL callsT ((sp 32 t).getD 4 []) < 7 := kindL_lt callsT _ (by decide)
        exact ⟨by simp [I64], hi 0, hi 1, hi 2, by unfold I64; simp only; omega, z, z, z⟩
      · cases h
    · cases h
  · split at h
    · obtain ⟨l, hl, rfl⟩ := Option.map_eq_some_iff.1 h
      exact ⟨by simp [I64], hi 0, z, z, z, z, hi 1, hi 2⟩
    · split at h
      · injection h with h; subst h
        exact ⟨by simp [I64], hi 0, z, z, z, z, hi 1, z⟩
      · split at h
        · injection h with h; subst h
          exact ⟨zk, hi 0, z, z, z, z, z, z⟩
        · injection h with h; subst h
          exact ⟨zk, z, z, z, z, hi 0, z, z⟩
end Go.Proofs.YtcocmljollnpdaaDoor
