/- script: the law's head; ScriptHexes. -/
import Derived.Test.YtcocmljollnpdaaDoorSc7
namespace Go.Proofs.YtcocmljollnpdaaDoor
open Go Go.RowKit Go.Dm
set_option linter.unusedVariables false
set_option linter.unusedSimpArgs false

def headT : List UInt8 := [99, 97, 108, 108, 32, 48, 32, 49, 32, 49, 32, 98, 101, 103, 105, 110, 32, 45, 32, 45]
theorem itoa0 : Lib.itoa 0 = [48] := by unfold Lib.itoa; rw [if_neg (by decide)]; exact Lib.decDigits_one (by decide)
theorem itoa1 : Lib.itoa 1 = [49] := by unfold Lib.itoa; rw [if_neg (by decide)]; exact Lib.decDigits_one (by decide)
theorem num0 : numL [48] = some 0 := by rw [← itoa0]; exact num_itoa 0 (by unfold I64; omega)
theorem num1 : numL [49] = some 1 := by rw [← itoa1]; exact num_itoa 1 (by unfold I64; omega)
theorem head_step : stepL headT = some ⟨1, 0, 1, 1, 1, [], [], 0, 0, [], 0⟩ := by
  have h1 : sp 32 headT = [[99, 97, 108, 108], [48], [49], [49], [98, 101, 103, 105, 110], [45], [45]] := by decide +kernel
  have h2 : kindL stepsT [99, 97, 108, 108] = 1 := by decide +kernel
  have h3 : kindL callsT [98, 101, 103, 105, 110] = 1 := by decide +kernel
  unfold stepL stepW
  rw [h1]
  simp only [List.getD_cons_zero, h2]
  rw [if_neg (by decide)]
  have h4 : numsL ((List.take (min (countOf 1) 4) [[99, 97, 108, 108], [48], [49], [49], [98, 101, 103, 105, 110], [45], [45]]).drop 1) = some [0, 1, 1] := by
    show numsL [[48], [49], [49]] = _
    simp [numsL, num0, num1]
  rw [h4]
  simp only [Option.bind_some]
  unfold stepN
  rw [if_pos rfl]
  unfold callW
  simp only [List.getD_cons_succ, List.getD_cons_zero, h3]
  rfl

set_option maxHeartbeats 8000000 in
set_option maxRecDepth 100000 in
theorem head_any {w : World} (hE : Env w) : Calls Tryd.prog 8 #[] w fun e w' => e = .returned (.bool true) ∧ Only (fun _ => False) w w' := by
  go_enter Tryd.func8, Tryd.ntmps8
  go_wp2_with fail
  refine (step_any _ (by decide) hE).mono ?_
  rintro e w1 ⟨ho, ⟨s, v, hs, rfl, hrow⟩ | ⟨hs, _⟩⟩
  · have hs' := hs.symm.trans head_step
    injection hs' with hs'
    subst hs'
    have hv : ∃ a n c, v = .slice a n c := by obtain ⟨a, c, h, _⟩ := hrow; exact ⟨a, _, c, h⟩
    obtain ⟨a, n, c, rfl⟩ := hv
    unfold Stp.cells Str
    clear hs hrow
    go_wp2_with fail
    go_ret
    exact ⟨rfl, ho.alloc _⟩
  · rw [show (ByteArray.mk _).data.toList = headT from rfl, head_step] at hs; cases hs

/-! ScriptHexes -/
def hx (c : UInt8) : Bool := (decide (48 ≤ c.toNat) && decide (c.toNat ≤ 57)) || (decide (97 ≤ c.toNat) && decide (c.toNat ≤ 102))
theorem hx_fin : ∀ k : Fin 256, hx (UInt8.ofNat k.val) = decide (0 ≤ dig (UInt8.ofNat k.val)) := by decide +kernel
theorem hx_dig (c : UInt8) : hx c = decide (0 ≤ dig c) := by rw [byte_of c]; exact hx_fin _
theorem unhexGo_hx : ∀ (n : Nat) (l : List UInt8), l.length ≤ n → (unhexGo l).isSome = (decide (l.length % 2 = 0) && l.all hx) := by
  intro n
  induction n with
  | zero =>
    intro l hl
    cases l with
    | nil => rfl
    | cons _ _ => simp at hl
  | succ n ih =>
    intro l hl
    match l, hl with
    | [], _ => rfl
    | [_], _ => rfl
    | a :: b :: r, hl =>
      have h := ih r (by simp at hl; omega)
      simp only [unhexGo, List.all_cons, hx_dig a, hx_dig b, List.length_cons]
      have e : (r.length + 1 + 1) % 2 = r.length % 2 := by omega
      simp only [e]
      by_cases hb : dig a < 0 ∨ dig b < 0
      · rw [if_pos hb]
        rcases hb with hb | hb
        · have : decide (0 ≤ dig a) = false := by simpa using hb
          simp [this]
        · have : decide (0 ≤ dig b) = false := by simpa using hb
          simp [this]
      · rw [if_neg hb]
        have h1 : decide (0 ≤ dig a) = true := by simp; omega
        have h2 : decide (0 ≤ dig b) = true := by simp; omega
        simp [h1, h2, h]
theorem unhex_right (l : List UInt8) (h : l ≠ [45]) : (unhexL l).isSome = (decide (0 < l.length) && decide (l.length % 2 = 0) && l.all hx) := by
  unfold unhexL
  rw [if_neg h]
  by_cases h0 : l = []
  · subst h0; rfl
  · have hp : 0 < l.length := List.length_pos_iff.2 h0
    by_cases h2 : l.length % 2 = 0
    · rw [if_neg (by simp [h0, h2]), unhexGo_hx _ _ (Nat.le_refl _)]
      simp [hp, h2]
    · rw [if_pos (.inr h2)]
      simp [h2]

theorem Str_self (s : ByteArray) : Str s.data.toList = .string s := by unfold Str; simp
theorem toL {s : ByteArray} {l : List UInt8} (h : s.data.toList = l) : s.toList = l := by rw [ByteArray.toList_eq]; exact h

set_option maxHeartbeats 16000000 in
set_option maxRecDepth 100000 in
theorem hexes_walk (s t : ByteArray) (hs : s.size ≤ 140737488351232) (ht : t.size ≤ 140737488351232) {w : World} (hE : Env w) :
    Calls Tryd.prog 4 #[.string s, .string t] w fun e w' => e = .returned (.bool true) ∧ Only (fun _ => False) w w' := by
  have HE := Lib.hid hE
  clear hE
  go_enter Tryd.func4, Tryd.ntmps4
  go_wp2_with fail
  refine (head_any HE.out).mono ?_
  rintro e w1 ⟨rfl, ho1⟩
  by_cases g1 : (200 : Int) < (s.size : Int)
  · go_wp2_with fail
    go_ret
    exact ⟨rfl, ho1⟩
  · by_cases g2 : (200 : Int) < (t.size : Int)
    · go_wp2_with fail
      go_ret
      exact ⟨rfl, ho1⟩
    · have d1 : decide ((200 : Int) < (s.size : Int)) = false := by simpa using g1
      have d2 : decide ((200 : Int) < (t.size : Int)) = false := by simpa using g2
      have hs2 : s.size ≤ 200 := by omega
      have ht2 : t.size ≤ 200 := by omega
      clear g1 g2 hs ht
      have hxl : (hexL s.data.toList).length ≤ 1000 := by
        unfold hexL
        split
        · simp
        · rw [flat_len]; simp; omega
      have Hhx := Lib.hid hxl
      clear hxl
      go_wp2_with fail
      refine (hex_any s (by omega)).mono ?_
      rintro e w2 ⟨rfl, ho2⟩
      obtain ⟨hb, hhb⟩ : ∃ hb : ByteArray, hb = ⟨(hexL s.data.toList).toArray⟩ := ⟨_, rfl⟩
      have Hhb := Lib.hid (show hb.data.toList = hexL s.data.toList by rw [hhb])
      have HS := Lib.hid (show Str (hexL s.data.toList) = Value.string hb by rw [hhb]; rfl)
      have hbz : hb.size ≤ 1000 := by
        have h : hb.size = hb.data.toList.length := by simp
        rw [h, Hhb.out]; exact Hhx.out
      rw [HS.out]
      clear hhb
      go_wp2_with fail
      refine (unhex_any hb (by omega)).mono ?_
      rintro e w3 ⟨rfl, ho3⟩
      rw [Hhb.out, unhex_hex]
      simp only [Option.getD_some, Option.isSome_some, Str_self]
      go_wp2_with fail
      refine (hex_any s (by omega)).mono ?_
      rintro e w4 ⟨rfl, ho4⟩
      rw [HS.out]
      go_wp2_with fail
      refine (lhex_any s (by omega)).mono ?_
      rintro e w5 ⟨rfl, ho5⟩
      rw [HS.out]
      have ho6 := (((ho1.trans' ho2).trans' ho3).trans' ho4).trans' ho5
      clear ho1 ho2 ho3 ho4 ho5 HS Hhb Hhx hbz
      have bs1 : (s.toList != s.toList) = false := by simp
      have bs2 : (hb.toList != hb.toList) = false := by simp
      go_wp2_with fail
      refine (unhex_any t (by omega)).mono ?_
      rintro e w6 ⟨rfl, ho7⟩
      have ho8 := ho6.trans' ho7
      clear ho6 ho7 bs1 bs2
      by_cases t0 : t.data.toList = [45]
      · as_aux_lemma =>
          have q0 : (t.toList == [45]) = true := by rw [ByteArray.toList_eq, t0]; rfl
          have q1 : (t.toList != [45]) = false := by rw [ByteArray.toList_eq, t0]; rfl
          rw [show unhexL t.data.toList = some [] by rw [t0]; rfl]
          have HT := Lib.hid (show t = ⟨#[45]⟩ from ba_ext t0)
          have hsz : (0 : Int) < (t.size : Int) := by rw [HT.out]; decide
          simp only [Option.getD_some, Option.isSome_some]
          clear t0
          go_wp2_with fail
          go_loopw [9, 10] (fun rv iv wr => rv = .bool true ∧ iv = .int .i64 0 ∧ Only (fun _ => False) w wr) (fun _ _ _ => 0)
          case atStart => exact ⟨rfl, rfl, ho8⟩
          case round =>
            obtain ⟨rfl, rfl, ho9⟩ := hrel
            clear ho8
            go_wp2_with fail
            refine (hex_any ⟨#[]⟩ (by decide)).mono ?_
            rintro e w7 ⟨rfl, ho10⟩
            have ho11 := ho9.trans' ho10
            rw [show Str (hexL (ByteArray.mk #[]).data.toList) = Value.string ⟨#[45]⟩ from rfl]
            have e0 : ([45] == t.toList) = true := by rw [HT.out, ByteArray.toList_eq]; rfl
            go_wp2_with fail
            go_ret
            exact ⟨rfl, ho11⟩
      · as_aux_lemma =>
          have q0 : (t.toList == [45]) = false := by rw [ByteArray.toList_eq]; simpa using t0
          have q1 : (t.toList != [45]) = true := by rw [ByteArray.toList_eq]; simpa using t0
          have hr := unhex_right t.data.toList t0
          rw [show t.data.toList.length = t.size by simp] at hr
          clear t0
          by_cases z0 : t.size = 0
          · have p2 : decide ((0 : Int) < (t.size : Int)) = false := decide_eq_false (by omega)
            have p3 : decide (0 < t.size) = false := decide_eq_false (by omega)
            have HU := Lib.hid (show (unhexL t.data.toList).isSome = (false && t.data.toList.all hx) by rw [hr]; simp [z0])
            clear hr z0
            go_wp2_with fail
            go_loopw [9, 10] (fun rv iv wr => ∃ (k : Nat) (rk : Bool), k ≤ t.size ∧ iv = .int .i64 (k : Int) ∧ rv = .bool rk ∧ Hid (rk = (false && (t.data.toList.take k).all hx)) ∧ Only (fun _ => False) w wr) (fun _ iv _ => t.size - (intOf iv).toNat)
            case atStart => exact ⟨0, false, Nat.zero_le _, rfl, rfl, by unfold Hid; rfl, ho8⟩
            case round =>
              obtain ⟨k, rk, hk, rfl, rfl, HK, ho9⟩ := hrel
              clear ho8
              by_cases hlt : k < t.size
              · have HT := Lib.hid (take_snoc t k hlt)
                have p0 : (0 : Int) ≤ (k : Int) := by omega
                have p1 : (k : Int) < (t.size : Int) := by omega
                cases rk
                · as_aux_lemma =>
                    go_wp2_with fail
                    go_roundw
                    case rel => exact ⟨k + 1, false, by omega, by simp, rfl, by unfold Hid; rw [HT.out, List.all_append, ← Bool.and_assoc, ← HK.out]; simp [], ho9⟩
                    case measure => simp [intOf]; omega
                · exact absurd HK.out (by simp)
              · obtain rfl : k = t.size := by omega
                have hrk : rk = (unhexL t.data.toList).isSome := by
                  rw [HK.out, take_all, HU.out]
                subst hrk
                clear HK
                cases hu : unhexL t.data.toList with
                | none =>
                  as_aux_lemma =>
                    simp only [Option.getD_none, Option.isSome_none]
                    unfold Str
                    go_wp2_with fail
                    go_ret
                    exact ⟨rfl, ho9⟩
                | some y =>
                  as_aux_lemma =>
                    have HY := Lib.hid (hex_unhex hu)
                    have hyl : y.length ≤ 200 := by
                      have h := congrArg List.length HY.out
                      unfold hexL at h
                      split at h
                      · rename_i h0; rw [h0]; simp
                      · rw [flat_len] at h; simp at h; omega
                    clear hu
                    simp only [Option.getD_some, Option.isSome_some]
                    unfold Str
                    go_wp2_with fail
                    refine (hex_any ⟨y.toArray⟩ (by show y.toArray.size ≤ _; simp; omega)).mono ?_
                    rintro e w7 ⟨rfl, ho10⟩
                    have ho11 := ho9.trans' ho10
                    rw [show (ByteArray.mk y.toArray).data.toList = y by simp, HY.out, Str_self]
                    have e0 : (t.toList == t.toList) = true := by simp
                    go_wp2_with fail
                    go_ret
                    exact ⟨rfl, ho11⟩
          · by_cases z1 : t.size % 2 = 0
            · have p2 : decide ((0 : Int) < (t.size : Int)) = true := decide_eq_true (by omega)
              have p3 : decide (0 < t.size) = true := decide_eq_true (by omega)
              have p4 : ((t.size : Int) % 2 == 0) = true := by simp; omega
              have HU := Lib.hid (show (unhexL t.data.toList).isSome = (true && t.data.toList.all hx) by rw [hr, p3]; simp [z1])
              clear hr z0 z1
              go_wp2_with fail
              go_loopw [9, 10] (fun rv iv wr => ∃ (k : Nat) (rk : Bool), k ≤ t.size ∧ iv = .int .i64 (k : Int) ∧ rv = .bool rk ∧ Hid (rk = (true && (t.data.toList.take k).all hx)) ∧ Only (fun _ => False) w wr) (fun _ iv _ => t.size - (intOf iv).toNat)
              case atStart => exact ⟨0, true, Nat.zero_le _, rfl, rfl, by unfold Hid; rfl, ho8⟩
              case round =>
                obtain ⟨k, rk, hk, rfl, rfl, HK, ho9⟩ := hrel
                clear ho8
                by_cases hlt : k < t.size
                · have HT := Lib.hid (take_snoc t k hlt)
                  have p0 : (0 : Int) ≤ (k : Int) := by omega
                  have p1 : (k : Int) < (t.size : Int) := by omega
                  cases rk
                  · as_aux_lemma =>
                      go_wp2_with fail
                      go_roundw
                      case rel => exact ⟨k + 1, false, by omega, by simp, rfl, by unfold Hid; rw [HT.out, List.all_append, ← Bool.and_assoc, ← HK.out]; simp [], ho9⟩
                      case measure => simp [intOf]; omega
                  · obtain ⟨c, hc⟩ : ∃ c, c = t[k] := ⟨_, rfl⟩
                    have HC := Lib.hid hc
                    have h256 : (c.toNat : Int) < 256 := by have := c.toNat_lt; omega
                    by_cases a1 : c.toNat < 48
                    · as_aux_lemma =>
                        have hf : hx t[k] = false := by rw [← HC.out]; unfold hx; simp <;> omega
                        have e48 : decide ((48 : Int) ≤ (t[k].toNat : Int)) = false := decide_eq_false (by rw [← HC.out]; omega)
                        have e57 : decide ((t[k].toNat : Int) ≤ 57) = true := decide_eq_true (by rw [← HC.out]; omega)
                        have e97 : decide ((97 : Int) ≤ (t[k].toNat : Int)) = false := decide_eq_false (by rw [← HC.out]; omega)
                        have e102 : decide ((t[k].toNat : Int) ≤ 102) = true := decide_eq_true (by rw [← HC.out]; omega)
                        clear hc h256
                        go_wp2_with fail
                        go_roundw
                        case rel => exact ⟨k + 1, false, by omega, by simp, rfl, by unfold Hid; rw [HT.out, List.all_append, ← Bool.and_assoc, ← HK.out]; simp [hf], ho9⟩
                        case measure => simp [intOf]; omega
                    · by_cases a2 : c.toNat ≤ 57
                      · as_aux_lemma =>
                          have hf : hx t[k] = true := by rw [← HC.out]; unfold hx; simp <;> omega
                          have e48 : decide ((48 : Int) ≤ (t[k].toNat : Int)) = true := decide_eq_true (by rw [← HC.out]; omega)
                          have e57 : decide ((t[k].toNat : Int) ≤ 57) = true := decide_eq_true (by rw [← HC.out]; omega)
                          have e97 : decide ((97 : Int) ≤ (t[k].toNat : Int)) = false := decide_eq_false (by rw [← HC.out]; omega)
                          have e102 : decide ((t[k].toNat : Int) ≤ 102) = true := decide_eq_true (by rw [← HC.out]; omega)
                          clear hc h256
                          go_wp2_with fail
                          go_roundw
                          case rel => exact ⟨k + 1, true, by omega, by simp, rfl, by unfold Hid; rw [HT.out, List.all_append, ← Bool.and_assoc, ← HK.out]; simp [hf], ho9⟩
                          case measure => simp [intOf]; omega
                      · by_cases a3 : c.toNat < 97
                        · as_aux_lemma =>
                            have hf : hx t[k] = false := by rw [← HC.out]; unfold hx; simp <;> omega
                            have e48 : decide ((48 : Int) ≤ (t[k].toNat : Int)) = true := decide_eq_true (by rw [← HC.out]; omega)
                            have e57 : decide ((t[k].toNat : Int) ≤ 57) = false := decide_eq_false (by rw [← HC.out]; omega)
                            have e97 : decide ((97 : Int) ≤ (t[k].toNat : Int)) = false := decide_eq_false (by rw [← HC.out]; omega)
                            have e102 : decide ((t[k].toNat : Int) ≤ 102) = true := decide_eq_true (by rw [← HC.out]; omega)
                            clear hc h256
                            go_wp2_with fail
                            go_roundw
                            case rel => exact ⟨k + 1, false, by omega, by simp, rfl, by unfold Hid; rw [HT.out, List.all_append, ← Bool.and_assoc, ← HK.out]; simp [hf], ho9⟩
                            case measure => simp [intOf]; omega
                        · by_cases a4 : c.toNat ≤ 102
                          · as_aux_lemma =>
                              have hf : hx t[k] = true := by rw [← HC.out]; unfold hx; simp <;> omega
                              have e48 : decide ((48 : Int) ≤ (t[k].toNat : Int)) = true := decide_eq_true (by rw [← HC.out]; omega)
                              have e57 : decide ((t[k].toNat : Int) ≤ 57) = false := decide_eq_false (by rw [← HC.out]; omega)
                              have e97 : decide ((97 : Int) ≤ (t[k].toNat : Int)) = true := decide_eq_true (by rw [← HC.out]; omega)
                              have e102 : decide ((t[k].toNat : Int) ≤ 102) = true := decide_eq_true (by rw [← HC.out]; omega)
                              clear hc h256
                              go_wp2_with fail
                              go_roundw
                              case rel => exact ⟨k + 1, true, by omega, by simp, rfl, by unfold Hid; rw [HT.out, List.all_append, ← Bool.and_assoc, ← HK.out]; simp [hf], ho9⟩
                              case measure => simp [intOf]; omega
                          · as_aux_lemma =>
                              have hf : hx t[k] = false := by rw [← HC.out]; unfold hx; simp <;> omega
                              have e48 : decide ((48 : Int) ≤ (t[k].toNat : Int)) = true := decide_eq_true (by rw [← HC.out]; omega)
                              have e57 : decide ((t[k].toNat : Int) ≤ 57) = false := decide_eq_false (by rw [← HC.out]; omega)
                              have e97 : decide ((97 : Int) ≤ (t[k].toNat : Int)) = true := decide_eq_true (by rw [← HC.out]; omega)
                              have e102 : decide ((t[k].toNat : Int) ≤ 102) = false := decide_eq_false (by rw [← HC.out]; omega)
                              clear hc h256
                              go_wp2_with fail
                              go_roundw
                              case rel => exact ⟨k + 1, false, by omega, by simp, rfl, by unfold Hid; rw [HT.out, List.all_append, ← Bool.and_assoc, ← HK.out]; simp [hf], ho9⟩
                              case measure => simp [intOf]; omega
                · obtain rfl : k = t.size := by omega
                  have hrk : rk = (unhexL t.data.toList).isSome := by
                    rw [HK.out, take_all, HU.out]
                  subst hrk
                  clear HK
                  cases hu : unhexL t.data.toList with
                  | none =>
                    as_aux_lemma =>
                      simp only [Option.getD_none, Option.isSome_none]
                      unfold Str
                      go_wp2_with fail
                      go_ret
                      exact ⟨rfl, ho9⟩
                  | some y =>
                    as_aux_lemma =>
                      have HY := Lib.hid (hex_unhex hu)
                      have hyl : y.length ≤ 200 := by
                        have h := congrArg List.length HY.out
                        unfold hexL at h
                        split at h
                        · rename_i h0; rw [h0]; simp
                        · rw [flat_len] at h; simp at h; omega
                      clear hu
                      simp only [Option.getD_some, Option.isSome_some]
                      unfold Str
                      go_wp2_with fail
                      refine (hex_any ⟨y.toArray⟩ (by show y.toArray.size ≤ _; simp; omega)).mono ?_
                      rintro e w7 ⟨rfl, ho10⟩
                      have ho11 := ho9.trans' ho10
                      rw [show (ByteArray.mk y.toArray).data.toList = y by simp, HY.out, Str_self]
                      have e0 : (t.toList == t.toList) = true := by simp
                      go_wp2_with fail
                      go_ret
                      exact ⟨rfl, ho11⟩
            · have p2 : decide ((0 : Int) < (t.size : Int)) = true := decide_eq_true (by omega)
              have p3 : decide (0 < t.size) = true := decide_eq_true (by omega)
              have p4 : ((t.size : Int) % 2 == 0) = false := by simp; omega
              have HU := Lib.hid (show (unhexL t.data.toList).isSome = (false && t.data.toList.all hx) by rw [hr]; simp [z1])
              clear hr z0 z1
              go_wp2_with fail
              go_loopw [9, 10] (fun rv iv wr => ∃ (k : Nat) (rk : Bool), k ≤ t.size ∧ iv = .int .i64 (k : Int) ∧ rv = .bool rk ∧ Hid (rk = (false && (t.data.toList.take k).all hx)) ∧ Only (fun _ => False) w wr) (fun _ iv _ => t.size - (intOf iv).toNat)
              case atStart => exact ⟨0, false, Nat.zero_le _, rfl, rfl, by unfold Hid; rfl, ho8⟩
              case round =>
                obtain ⟨k, rk, hk, rfl, rfl, HK, ho9⟩ := hrel
                clear ho8
                by_cases hlt : k < t.size
                · have HT := Lib.hid (take_snoc t k hlt)
                  have p0 : (0 : Int) ≤ (k : Int) := by omega
                  have p1 : (k : Int) < (t.size : Int) := by omega
                  cases rk
                  · as_aux_lemma =>
                      go_wp2_with fail
                      go_roundw
                      case rel => exact ⟨k + 1, false, by omega, by simp, rfl, by unfold Hid; rw [HT.out, List.all_append, ← Bool.and_assoc, ← HK.out]; simp [], ho9⟩
                      case measure => simp [intOf]; omega
                  · exact absurd HK.out (by simp)
                · obtain rfl : k = t.size := by omega
                  have hrk : rk = (unhexL t.data.toList).isSome := by
                    rw [HK.out, take_all, HU.out]
                  subst hrk
                  clear HK
                  cases hu : unhexL t.data.toList with
                  | none =>
                    as_aux_lemma =>
                      simp only [Option.getD_none, Option.isSome_none]
                      unfold Str
                      go_wp2_with fail
                      go_ret
                      exact ⟨rfl, ho9⟩
                  | some y =>
                    as_aux_lemma =>
                      have HY := Lib.hid (hex_unhex hu)
                      have hyl : y.length ≤ 200 := by
                        have h := congrArg List.length HY.out
                        unfold hexL at h
                        split at h
                        · rename_i h0; rw [h0]; simp
                        · rw [flat_len] at h; simp at h; omega
                      clear hu
                      simp only [Option.getD_some, Option.isSome_some]
                      unfold Str
                      go_wp2_with fail
                      refine (hex_any ⟨y.toArray⟩ (by show y.toArray.size ≤ _; simp; omega)).mono ?_
                      rintro e w7 ⟨rfl, ho10⟩
                      have ho11 := ho9.trans' ho10
                      rw [show (ByteArray.mk y.toArray).data.toList = y by simp, HY.out, Str_self]
                      have e0 : (t.toList == t.toList) = true := by simp
                      go_wp2_with fail
                      go_ret
                      exact ⟨rfl, ho11⟩
end Go.Proofs.YtcocmljollnpdaaDoor
