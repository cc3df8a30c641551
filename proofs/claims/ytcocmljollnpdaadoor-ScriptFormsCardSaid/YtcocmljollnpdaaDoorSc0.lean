/- script: what the text of a step is, without a program: numbers, digits, words. -/
import Derived.Lib.SplitLaws
import Derived.Lib.Join
import Derived.Lib.AtoiAll
import Derived.Lib.ItoaNum
import Derived.Lib.Bytealg
namespace Go.Proofs.YtcocmljollnpdaaDoor
open Go

/-! Cutting at a byte. -/
def sp (c : UInt8) : List UInt8 → List (List UInt8)
  | [] => [[]]
  | x :: l => if x = c then [] :: sp c l else match sp c l with
    | [] => [[x]]
    | w :: r => (x :: w) :: r

theorem sp_ne (c : UInt8) (l : List UInt8) : sp c l ≠ [] := by
  induction l with
  | nil => simp [sp]
  | cons x l ih =>
    unfold sp
    split
    · simp
    · split <;> simp

theorem index_cons_eq (c : UInt8) (l : List UInt8) : Lib.index (c :: l) [c] = 0 := by
  rw [Lib.index]; simp [List.isPrefixOf]
theorem index_cons_ne {x c : UInt8} (h : x ≠ c) (l : List UInt8) : Lib.index (x :: l) [c] = if Lib.index l [c] == -1 then -1 else Lib.index l [c] + 1 := by
  rw [Lib.index]
  have hp : ([c] : List UInt8).isPrefixOf (x :: l) = false := by simp [List.isPrefixOf, Ne.symm h]
  rw [hp]; simp

theorem split_sp (c : UInt8) (l : List UInt8) : Lib.split l [c] = sp c l := by
  unfold Lib.split
  rw [Lib.count_one]
  induction l with
  | nil => rfl
  | cons x l ih =>
    by_cases h : x = c
    · subst h
      rw [List.count_cons_self, Lib.splitK, index_cons_eq, if_neg (by decide)]
      simp only [sp, if_true, List.length_singleton, Int.toNat_zero, Nat.zero_add, List.take_zero, List.drop_one, List.tail_cons]
      rw [ih]
    · rw [List.count_cons_of_ne (by simpa using h)]
      simp only [sp, if_neg h]
      cases hk : l.count c with
      | zero =>
        rw [hk] at ih
        simp only [Lib.splitK] at ih ⊢
        rw [← ih]
      | succ k =>
        rw [hk] at ih
        have hne : Lib.index l [c] ≠ -1 := fun e => by
          have := Lib.count_miss e
          rw [Lib.count_one] at this
          omega
        have hge := Lib.index_ge l [c]
        obtain ⟨i, hi⟩ : ∃ i : Nat, Lib.index l [c] = i := ⟨(Lib.index l [c]).toNat, by omega⟩
        simp only [Lib.splitK] at ih ⊢
        rw [index_cons_ne h, hi]
        rw [hi] at ih
        have hi1 : ¬ ((i : Int) == -1) = true := by simp only [beq_iff_eq]; omega
        have hi2 : ¬ (((i : Int) + 1) == -1) = true := by simp only [beq_iff_eq]; omega
        rw [if_neg hi1] at ih
        rw [if_neg hi1, if_neg hi2, ← ih]
        have e1 : ((i : Int) + 1).toNat = i + 1 := by omega
        have e2 : ((i : Int)).toNat = i := by omega
        rw [e1, e2]
        simp only [Nat.add_zero, List.take_succ_cons, List.length_singleton, List.drop_succ_cons]

theorem splitB_sp (c : UInt8) (s : ByteArray) : (Lib.splitB ⟨#[c]⟩ 0 (Lib.countB s ⟨#[c]⟩) s).map (·.data.toList) = sp c s.data.toList := by
  rw [Lib.splitB_data]
  exact split_sp c _
theorem splitB_sp_length (c : UInt8) (s : ByteArray) : (Lib.splitB ⟨#[c]⟩ 0 (Lib.countB s ⟨#[c]⟩) s).length = (sp c s.data.toList).length := by
  rw [← splitB_sp, List.length_map]

def jn (c : UInt8) (ws : List (List UInt8)) : List UInt8 := Lib.join ws [c]
theorem jn_one (c : UInt8) (w : List UInt8) : jn c [w] = w := Lib.join_one _ _
theorem jn_cons (c : UInt8) (w v : List UInt8) (r : List (List UInt8)) : jn c (w :: v :: r) = w ++ c :: jn c (v :: r) := by
  unfold jn
  rw [Lib.join_cons, Lib.join_cons]
  simp [Lib.joinTail]

theorem sp_word {c : UInt8} {w : List UInt8} (h : c ∉ w) : sp c w = [w] := by
  induction w with
  | nil => rfl
  | cons x w ih =>
    have h1 : ¬ x = c := fun e => h (by simp [e])
    have h2 : c ∉ w := fun e => h (by simp [e])
    rw [sp, if_neg h1, ih h2]
theorem sp_app {c : UInt8} {w l : List UInt8} (h : c ∉ w) : sp c (w ++ c :: l) = w :: sp c l := by
  induction w with
  | nil => simp [sp]
  | cons x w ih =>
    have h1 : ¬ x = c := fun e => h (by simp [e])
    have h2 : c ∉ w := fun e => h (by simp [e])
    rw [List.cons_append, sp, if_neg h1, ih h2]
theorem sp_jn {c : UInt8} {ws : List (List UInt8)} (h0 : ws ≠ []) (h : ∀ w ∈ ws, c ∉ w) : sp c (jn c ws) = ws := by
  induction ws with
  | nil => exact absurd rfl h0
  | cons w r ih =>
    cases r with
    | nil => rw [jn_one]; exact sp_word (h w (by simp))
    | cons v r =>
      rw [jn_cons, sp_app (h w (by simp)), ih (by simp) (fun x hx => h x (by simp [hx]))]
theorem jn_sp (c : UInt8) (l : List UInt8) : jn c (sp c l) = l := by
  induction l with
  | nil => rfl
  | cons x l ih =>
    unfold sp
    by_cases h : x = c
    · subst h
      rw [if_pos rfl]
      have hne := sp_ne x l
      match hs : sp x l, hne with
      | w :: r, _ => rw [jn_cons, ← hs, ih]; rfl
    · rw [if_neg h]
      have hne := sp_ne c l
      match hs : sp c l, hne with
      | w :: r, _ =>
        rw [hs] at ih
        simp only
        cases r with
        | nil => rw [jn_one] at ih ⊢; rw [ih]
        | cons v r => rw [jn_cons] at ih ⊢; rw [List.cons_append, ih]
theorem sp_none (c : UInt8) (l : List UInt8) : ∀ w ∈ sp c l, c ∉ w := by
  induction l with
  | nil => simp [sp]
  | cons x l ih =>
    intro w hw
    unfold sp at hw
    by_cases h : x = c
    · rw [if_pos h] at hw
      simp only [List.mem_cons] at hw
      rcases hw with rfl | hw
      · simp
      · exact ih w hw
    · rw [if_neg h] at hw
      have hne := sp_ne c l
      match hs : sp c l, hne with
      | v :: r, _ =>
        rw [hs] at hw ih
        simp only [List.mem_cons] at hw
        rcases hw with rfl | hw
        · have := ih v (by simp)
          simp only [List.mem_cons, not_or]
          exact ⟨fun e => h e.symm, this⟩
        · exact ih w (by simp [hw])

/-! Numbers. -/
def I64 (n : Int) : Prop := -9223372036854775808 ≤ n ∧ n ≤ 9223372036854775807
def numL (l : List UInt8) : Option Int := match Lib.atoiAll l with
  | .ok n => if Lib.itoa n = l then some n else none
  | _ => none

theorem dec_cons (u : Nat) : ∃ c r, Lib.decDigits u = c :: r ∧ 48 ≤ c.toNat ∧ c.toNat ≤ 57 := by
  induction u using Nat.strongRecOn with
  | _ u ih =>
    by_cases h : u < 10
    · rw [Lib.decDigits, dif_pos h]
      exact ⟨_, [], rfl, by simp; omega, by simp; omega⟩
    · obtain ⟨c, r, hr, h1, h2⟩ := ih (u / 10) (by omega)
      rw [Lib.decDigits, dif_neg h, hr]
      exact ⟨c, r ++ [UInt8.ofNat (48 + u % 10)], rfl, h1, h2⟩
theorem dec_all (u : Nat) : ∀ c ∈ Lib.decDigits u, 48 ≤ c.toNat ∧ c.toNat ≤ 57 := by
  induction u using Nat.strongRecOn with
  | _ u ih =>
    intro c hc
    by_cases h : u < 10
    · rw [Lib.decDigits, dif_pos h] at hc
      simp at hc
      subst hc
      exact ⟨by simp; omega, by simp; omega⟩
    · rw [Lib.decDigits, dif_neg h, List.mem_append] at hc
      rcases hc with hc | hc
      · exact ih _ (by omega) c hc
      · simp at hc
        subst hc
        exact ⟨by simp; omega, by simp; omega⟩
theorem itoa_all (n : Int) : ∀ c ∈ Lib.itoa n, c.toNat = 45 ∨ (48 ≤ c.toNat ∧ c.toNat ≤ 57) := by
  intro c hc
  unfold Lib.itoa at hc
  split at hc
  · simp only [List.mem_cons] at hc
    rcases hc with rfl | hc
    · exact .inl rfl
    · exact .inr (dec_all _ c hc)
  · exact .inr (dec_all _ c hc)
theorem itoa_ne (n : Int) : Lib.itoa n ≠ [] := by
  unfold Lib.itoa
  split
  · simp
  · obtain ⟨c, r, h, _⟩ := dec_cons n.toNat
    rw [h]; simp
theorem itoa_no {b : UInt8} (h : b.toNat ≠ 45 ∧ (b.toNat < 48 ∨ 57 < b.toNat)) (n : Int) : b ∉ Lib.itoa n := fun hb => by
  have := itoa_all n b hb
  omega

theorem parse_app : ∀ (l : List UInt8) (acc u : Nat) (d : Nat), d < 10 → Lib.parseUint10 acc l = .ok u → u * 10 + d < 18446744073709551616 → Lib.parseUint10 acc (l ++ [UInt8.ofNat (48 + d)]) = .ok (u * 10 + d) := by
  intro l
  induction l with
  | nil =>
    intro acc u d hd h hu
    simp only [Lib.parseUint10] at h
    injection h with h
    subst h
    have e : (UInt8.ofNat (48 + d)).toNat = 48 + d := by simp; omega
    rw [List.nil_append, Lib.parseUint10, e, if_pos (by omega), if_neg (by omega), if_neg (by omega), Lib.parseUint10]
    congr 1; omega
  | cons c r ih =>
    intro acc u d hd h hu
    rw [List.cons_append, Lib.parseUint10]
    rw [Lib.parseUint10] at h
    split at h
    · rename_i h1
      rw [if_pos h1]
      split at h
      · cases h
      · rename_i h2
        rw [if_neg h2]
        split at h
        · cases h
        · rename_i h3
          rw [if_neg h3]
          exact ih _ u d hd h hu
    · cases h
theorem parse_dec (u : Nat) (h : u < 18446744073709551616) : Lib.parseUint10 0 (Lib.decDigits u) = .ok u := by
  induction u using Nat.strongRecOn with
  | _ u ih =>
    by_cases h1 : u < 10
    · rw [Lib.decDigits, dif_pos h1]
      have := parse_app [] 0 0 u h1 rfl (by omega)
      simpa using this
    · rw [Lib.decDigits, dif_neg h1]
      have := parse_app _ 0 (u / 10) (u % 10) (by omega) (ih (u / 10) (by omega) (by omega)) (by omega)
      rw [this]
      congr 1; omega
theorem mag_dec (u : Nat) (h : u < 18446744073709551616) : Lib.parseMag (Lib.decDigits u) = .ok u := by
  unfold Lib.parseMag
  obtain ⟨c, r, hr, _⟩ := dec_cons u
  rw [if_neg (by rw [hr]; simp)]
  exact parse_dec u h
theorem atoi_itoa (n : Int) (h : I64 n) : Lib.atoiAll (Lib.itoa n) = .ok n := by
  unfold I64 at h
  unfold Lib.itoa
  split
  · rename_i hn
    have hm := mag_dec n.natAbs (by omega)
    have h45 : (45 : UInt8).toNat = 45 := rfl
    simp only [Lib.atoiAll, h45, or_true, if_true, hm, not_true_eq_false, false_and, if_false, true_and]
    rw [if_neg (by omega)]
    congr 1; omega
  · rename_i hn
    have hm := mag_dec n.toNat (by omega)
    obtain ⟨c, r, hr, h1, h2⟩ := dec_cons n.toNat
    rw [hr] at hm ⊢
    simp only [Lib.atoiAll]
    rw [if_neg (by omega), hm]
    simp only
    have h3 : ¬ c.toNat = 45 := by omega
    simp only [h3, not_false_eq_true, true_and, false_and, if_false]
    rw [if_neg (by omega)]
    congr 1; omega
theorem num_itoa (n : Int) (h : I64 n) : numL (Lib.itoa n) = some n := by
  unfold numL
  rw [atoi_itoa n h]
  simp
theorem num_some {l : List UInt8} {n : Int} (h : numL l = some n) : Lib.itoa n = l := by
  unfold numL at h
  split at h
  · split at h
    · injection h with h; subst h; assumption
    · cases h
  · cases h
theorem atoi_range {l : List UInt8} {n : Int} (h : Lib.atoiAll l = .ok n) : I64 n := by
  unfold Lib.atoiAll at h
  unfold I64
  split at h
  · cases h
  · simp only at h
    split at h
    · cases h
    · cases h
    · split at h
      · cases h
      · split at h
        · cases h
        · injection h with h
          subst h
          split <;> omega
theorem num_range {l : List UInt8} {n : Int} (h : numL l = some n) : I64 n := by
  unfold numL at h
  split at h
  · rename_i m hm
    split at h
    · injection h with h; subst h; exact atoi_range hm
    · cases h
  · cases h

def numsL : List (List UInt8) → Option (List Int)
  | [] => some []
  | w :: r => match numL w with
    | none => none
    | some n => (numsL r).map (n :: ·)
theorem nums_length : ∀ {ws : List (List UInt8)} {ns : List Int}, numsL ws = some ns → ns.length = ws.length := by
  intro ws
  induction ws with
  | nil => intro ns h; simp [numsL] at h; subst h; rfl
  | cons w r ih =>
    intro ns h
    unfold numsL at h
    split at h
    · cases h
    · obtain ⟨a, ha, rfl⟩ := Option.map_eq_some_iff.1 h
      simp [ih ha]
theorem nums_take {ws : List (List UInt8)} {k : Nat} {ns : List Int} {w : List UInt8} (hk : ws[k]? = some w) (h : numsL (ws.take k) = some ns) :
    numsL (ws.take (k + 1)) = (numL w).map fun n => ns ++ [n] := by
  induction ws generalizing k ns with
  | nil => simp at hk
  | cons v r ih =>
    cases k with
    | zero =>
      simp at hk; subst hk
      simp [numsL] at h; subst h
      simp only [List.take_succ_cons, List.take_zero, numsL]
      cases numL v <;> rfl
    | succ k =>
      simp only [List.getElem?_cons_succ] at hk
      simp only [List.take_succ_cons, numsL] at h ⊢
      cases hv : numL v with
      | none => rw [hv] at h; cases h
      | some n =>
        rw [hv] at h
        simp only at h
        obtain ⟨a, ha, rfl⟩ := Option.map_eq_some_iff.1 h
        simp only
        rw [ih hk ha]
        cases numL w <;> simp
theorem nums_fail {ws : List (List UInt8)} {k : Nat} {ns : List Int} {w : List UInt8} (hk : ws[k]? = some w) (h : numsL (ws.take k) = some ns) (hw : numL w = none) : numsL ws = none := by
  induction ws generalizing k ns with
  | nil => simp at hk
  | cons v r ih =>
    cases k with
    | zero =>
      simp at hk; subst hk
      simp [numsL, hw]
    | succ k =>
      simp only [List.getElem?_cons_succ] at hk
      simp only [List.take_succ_cons, numsL] at h ⊢
      cases hv : numL v with
      | none => rfl
      | some n =>
        rw [hv] at h
        simp only at h
        obtain ⟨a, ha, rfl⟩ := Option.map_eq_some_iff.1 h
        simp only
        rw [ih hk ha]; rfl

/-! Digits of bytes. -/
def digL : List UInt8 := [48, 49, 50, 51, 52, 53, 54, 55, 56, 57, 97, 98, 99, 100, 101, 102]
def hexD (n : Nat) : UInt8 := digL.getD n 0
def hexC (c : UInt8) : List UInt8 := [hexD (c.toNat / 16), hexD (c.toNat % 16)]
def hexL (l : List UInt8) : List UInt8 := if l = [] then [45] else l.flatMap hexC
def dig (c : UInt8) : Int := Lib.indexByte digL c
def hexV (x y : UInt8) : UInt8 := UInt8.ofNat (16 * (dig x).toNat + (dig y).toNat)
def unhexGo : List UInt8 → Option (List UInt8)
  | [] => some []
  | [_] => none
  | x :: y :: r => if dig x < 0 ∨ dig y < 0 then none else (unhexGo r).map (hexV x y :: ·)
def unhexL (l : List UInt8) : Option (List UInt8) := if l = [45] then some [] else if l = [] ∨ l.length % 2 ≠ 0 then none else unhexGo l

theorem dig_fin : ∀ k : Fin 256, dig (UInt8.ofNat k.val) < 0 ∨ (0 ≤ dig (UInt8.ofNat k.val) ∧ dig (UInt8.ofNat k.val) < 16 ∧ hexD (dig (UInt8.ofNat k.val)).toNat = UInt8.ofNat k.val) := by decide +kernel
theorem byte_of (c : UInt8) : c = UInt8.ofNat (⟨c.toNat, c.toNat_lt⟩ : Fin 256).val := by simp
theorem dig_cases (c : UInt8) : dig c < 0 ∨ (0 ≤ dig c ∧ dig c < 16 ∧ hexD (dig c).toNat = c) := by
  rw [byte_of c]
  exact dig_fin _
theorem hexD_fin : ∀ k : Fin 16, dig (hexD k.val) = k.val := by decide +kernel
theorem hexD_no : ∀ k : Fin 16, hexD k.val ≠ 32 ∧ hexD k.val ≠ 10 ∧ hexD k.val ≠ 45 := by decide +kernel
theorem hexC_un (c : UInt8) (r : List UInt8) : unhexGo (hexC c ++ r) = (unhexGo r).map (c :: ·) := by
  have h1 := hexD_fin ⟨c.toNat / 16, by have := c.toNat_lt; omega⟩
  have h2 := hexD_fin ⟨c.toNat % 16, by omega⟩
  dsimp only at h1 h2
  simp only [hexC, List.cons_append, List.nil_append, unhexGo]
  rw [if_neg (by rw [h1, h2]; omega)]
  have : hexV (hexD (c.toNat / 16)) (hexD (c.toNat % 16)) = c := by
    unfold hexV
    rw [h1, h2]
    have e : 16 * ((c.toNat / 16 : Nat) : Int).toNat + ((c.toNat % 16 : Nat) : Int).toNat = c.toNat := by omega
    rw [e]; simp
  rw [this]
theorem unhex_flat (l : List UInt8) : unhexGo (l.flatMap hexC) = some l := by
  induction l with
  | nil => rfl
  | cons c l ih => rw [List.flatMap_cons, hexC_un, ih]; rfl
theorem flat_len (l : List UInt8) : (l.flatMap hexC).length = 2 * l.length := by
  induction l with
  | nil => rfl
  | cons c l ih => rw [List.flatMap_cons, List.length_append, ih]; simp [hexC]; omega
theorem flat_no {b : UInt8} (hb : b = 32 ∨ b = 10 ∨ b = 45) (l : List UInt8) : b ∉ l.flatMap hexC := by
  intro h
  obtain ⟨c, _, hc⟩ := List.mem_flatMap.1 h
  have h1 := hexD_no ⟨c.toNat / 16, by have := c.toNat_lt; omega⟩
  have h2 := hexD_no ⟨c.toNat % 16, by omega⟩
  dsimp only at h1 h2
  simp only [hexC, List.mem_cons, List.not_mem_nil, or_false] at hc
  rcases hc with hc | hc <;> subst hc
  · rcases hb with e | e | e <;> simp [e] at h1
  · rcases hb with e | e | e <;> simp [e] at h2
theorem unhex_hex (l : List UInt8) : unhexL (hexL l) = some l := by
  unfold hexL unhexL
  by_cases h : l = []
  · subst h; simp
  · rw [if_neg h, if_neg, if_neg, unhex_flat]
    · rw [flat_len]
      rintro (h1 | h1)
      · have := congrArg List.length h1
        rw [flat_len, List.length_nil] at this
        exact h (List.eq_nil_of_length_eq_zero (by omega))
      · omega
    · intro e
      have := flat_no (b := 45) (by simp) l
      rw [e] at this
      simp at this
theorem hex_no {b : UInt8} (hb : b = 32 ∨ b = 10) (l : List UInt8) : b ∉ hexL l := by
  unfold hexL
  split
  · rcases hb with e | e <;> subst e <;> decide
  · exact flat_no (by rcases hb with e | e <;> simp [e]) l
theorem hex_ne (l : List UInt8) : hexL l ≠ [] := by
  unfold hexL
  split
  · simp
  · rename_i h
    intro e
    have := congrArg List.length e
    rw [flat_len, List.length_nil] at this
    exact h (List.eq_nil_of_length_eq_zero (by omega))
theorem unhexGo_flat : ∀ (n : Nat) (l y : List UInt8), l.length ≤ n → unhexGo l = some y → y.flatMap hexC = l := by
  intro n
  induction n with
  | zero =>
    intro l y hl h
    cases l with
    | nil => simp [unhexGo] at h; subst h; rfl
    | cons _ _ => simp at hl
  | succ n ih =>
    intro l y hl h
    match l, hl, h with
    | [], _, h => simp [unhexGo] at h; subst h; rfl
    | [_], _, h => simp [unhexGo] at h
    | a :: b :: r, hl, h =>
      unfold unhexGo at h
      split at h
      · cases h
      · rename_i hn
        obtain ⟨z, hz, rfl⟩ := Option.map_eq_some_iff.1 h
        rw [List.flatMap_cons, ih r z (by simp at hl; omega) hz]
        rcases dig_cases a with h1 | ⟨h1, h2, h3⟩
        · exact absurd (.inl h1) hn
        · rcases dig_cases b with g1 | ⟨g1, g2, g3⟩
          · exact absurd (.inr g1) hn
          · have e : (hexV a b).toNat = 16 * (dig a).toNat + (dig b).toNat := by
              unfold hexV
              simp; omega
            unfold hexC
            rw [e]
            have e1 : (16 * (dig a).toNat + (dig b).toNat) / 16 = (dig a).toNat := by omega
            have e2 : (16 * (dig a).toNat + (dig b).toNat) % 16 = (dig b).toNat := by omega
            rw [e1, e2, h3, g3]; rfl
theorem hex_unhex {t y : List UInt8} (h : unhexL t = some y) : hexL y = t := by
  unfold unhexL at h
  split at h
  · rename_i e; injection h with h; subst h; subst e; rfl
  · split at h
    · cases h
    · rename_i hn
      have := unhexGo_flat t.length t y (Nat.le_refl _) h
      unfold hexL
      rw [if_neg, this]
      intro e
      subst e
      exact hn (.inl (this.symm.trans rfl))

/-- The walk's steps: two bytes more. -/
theorem unhexGo_two {p : List UInt8} {acc : List UInt8} (h : unhexGo p = some acc) (x y : UInt8) (r : List UInt8) : unhexGo (p ++ x :: y :: r) = if dig x < 0 ∨ dig y < 0 then none else (unhexGo r).map fun z => acc ++ hexV x y :: z := by
  suffices ∀ n (p acc : List UInt8), p.length ≤ n → unhexGo p = some acc → unhexGo (p ++ x :: y :: r) = if dig x < 0 ∨ dig y < 0 then none else (unhexGo r).map fun z => acc ++ hexV x y :: z from this p.length p acc (Nat.le_refl _) h
  intro n
  induction n with
  | zero =>
    intro p acc hp h
    cases p with
    | nil => simp [unhexGo] at h; subst h; simp [unhexGo]
    | cons _ _ => simp at hp
  | succ n ih =>
    intro p acc hp h
    match p, hp, h with
    | [], _, h => simp [unhexGo] at h; subst h; simp [unhexGo]
    | [_], _, h => simp [unhexGo] at h
    | a :: b :: q, hp, h =>
      simp only [unhexGo] at h
      split at h
      · cases h
      · rename_i hn
        obtain ⟨z, hz, rfl⟩ := Option.map_eq_some_iff.1 h
        simp only [List.cons_append, unhexGo]
        rw [if_neg hn, ih q z (by simp at hp; omega) hz]
        split
        · rfl
        · cases unhexGo r <;> simp

/-! Truths. -/
def bitC (b : Bool) : UInt8 := if b then 49 else 48
def bitsL (l : List Bool) : List UInt8 := if l = [] then [45] else l.map bitC
def okBit (c : UInt8) : Bool := c == 48 || c == 49
def unbitsL (l : List UInt8) : Option (List Bool) := if l = [45] then some [] else if l = [] then none else if l.all okBit then some (l.map (· == 49)) else none
theorem unbits_bits (l : List Bool) : unbitsL (bitsL l) = some l := by
  unfold bitsL
  by_cases h : l = []
  · subst h; rfl
  · rw [if_neg h]
    unfold unbitsL
    have h45 : l.map bitC ≠ [45] := fun e => by
      cases l with
      | nil => simp at e
      | cons b r => cases b <;> simp [bitC] at e
    rw [if_neg h45, if_neg (by simpa using h), if_pos]
    · rw [List.map_map]
      have : ((fun x : UInt8 => x == 49) ∘ bitC) = id := by funext b; cases b <;> rfl
      rw [this, List.map_id]
    · rw [List.all_map, List.all_eq_true]
      intro b _
      cases b <;> rfl
theorem bits_unbits {t : List UInt8} {l : List Bool} (h : unbitsL t = some l) : bitsL l = t := by
  unfold unbitsL at h
  split at h
  · rename_i e; injection h with h; subst h; subst e; rfl
  · split at h
    · cases h
    · rename_i h0
      split at h
      · rename_i ha
        injection h with h
        subst h
        unfold bitsL
        rw [if_neg (by simpa using h0), List.map_map]
        refine (List.map_congr_left (g := id) fun c hc => ?_).trans (List.map_id _)
        have := List.all_eq_true.1 ha c hc
        simp only [okBit, Bool.or_eq_true, beq_iff_eq] at this
        rcases this with e | e <;> subst e <;> rfl
      · cases h
theorem bits_no {b : UInt8} (hb : b = 32 ∨ b = 10) (l : List Bool) : b ∉ bitsL l := by
  unfold bitsL
  split
  · rcases hb with e | e <;> subst e <;> decide
  · intro h
    obtain ⟨x, _, hx⟩ := List.mem_map.1 h
    subst hx
    cases x <;> simp [bitC] at hb
end Go.Proofs.YtcocmljollnpdaaDoor
