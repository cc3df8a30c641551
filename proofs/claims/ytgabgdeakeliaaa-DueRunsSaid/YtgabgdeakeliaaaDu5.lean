/- due: container/heap's down. -/
import Derived.Test.YtgabgdeakeliaaaDu4
namespace Go.Proofs.Ytgabgdeakeliaaa
open Go.RowKit Go.Dm

/-- How a walk down ends. -/
theorem down_end {L L1 : List Ent} {n i k : Nat} (hst : (k = i ∧ L1 = L ∧ AtI (fn L) n i) ∨ (i < k ∧ DnI (fn L1) n k)) (hk : ∀ t, 0 < t → t < n → par t = k → okp (fn L1) t k) (r : Bool) (hr : (r = true ↔ i < k)) :
    (r = true → HeapTo (fn L1) n) ∧ (r = false → L1 = L ∧ UpI (fn L) n i) := by
  rcases hst with ⟨rfl, rfl, h⟩ | ⟨hlt, h⟩
  · have : r = false := by cases r with
      | false => rfl
      | true => have := hr.1 rfl; omega
    subst this
    exact ⟨fun h => (by cases h), fun _ => ⟨rfl, h.up hk⟩⟩
  · have : r = true := hr.2 hlt
    subst this
    exact ⟨fun _ => h.heap hk, fun h => by cases h⟩

def DownR (w : World) (lb mb : Nat) (v : Value) (L : List Ent) (n i : Nat) (e : Ending) (w' : World) : Prop := ∃ r, e = .returned (.bool r) ∧ ∃ L' m', LRep w' lb mb v L' m' ∧ Cons L' m' ∧ L'.Perm L ∧ (∀ t, n ≤ t → L'[t]? = L[t]?) ∧ ((r = true → HeapTo (fn L') n) ∧ (r = false → L' = L ∧ UpI (fn L) n i)) ∧ Only (fun c => c = mb ∨ v.ownBlock = some c) w w'

set_option maxHeartbeats 16000000 in
set_option maxRecDepth 100000 in
theorem down_any {w : World} {lb mb : Nat} {v : Value} {L : List Ent} {m : List (Nm × Value)} (h : LRep w lb mb v L m) (hc : Cons L m) (hn : L.length ≤ 1000) {i n : Nat} (hi : i ≤ n) (hnl : n ≤ L.length) (hu : AtI (fn L) n i) :
    Calls Try.prog 18 #[.iface 47 (.pointer (some ⟨lb, 0, none⟩)), .int .i64 (i : Int), .int .i64 (n : Int)] w (DownR w lb mb v L n i) := by
  generalize hN : L.length = N at *
  have HN := Lib.hid hN
  clear hN
  go_enter Try.func18, Try.ntmps18
  go_wp2_with fail
  go_loopw [7] (fun kv wr => ∃ (k : Nat) (L1 : List Ent) (m1 : List (Nm × Value)), kv = .int .i64 (k : Int) ∧ k ≤ n ∧ Hid (L1.length = N) ∧ LRep wr lb mb v L1 m1 ∧ Cons L1 m1 ∧ L1.Perm L ∧ (∀ t, n ≤ t → L1[t]? = L[t]?) ∧ ((k = i ∧ L1 = L ∧ AtI (fn L) n i) ∨ (i < k ∧ DnI (fn L1) n k)) ∧ Only (fun c => c = mb ∨ v.ownBlock = some c) w wr) (fun kv _ => (n : Int).toNat - (intOf kv).toNat)
  case atStart => exact ⟨i, L, m, rfl, hi, HN, h, hc, List.Perm.refl _, fun _ _ => rfl, .inl ⟨rfl, rfl, hu⟩, Only.refl _ _⟩
  case round =>
    obtain ⟨k, L1, m1, rfl, hk, HL, hrep, hcons, hperm, hsame, hst, honly⟩ := hrel
    clear h hc hu
    have hA : ∀ t, 0 < t → t < n → t ≠ k → par t ≠ k → okp (fn L1) t (par t) := by
      rcases hst with ⟨rfl, rfl, h⟩ | ⟨_, h⟩
      · exact h.1
      · exact fun t h0 hn _ hp => h.1 t h0 hn hp
    have hB : ∀ t, 0 < t → t < n → par t = k → 0 < k → okp (fn L1) t (par k) := by
      rcases hst with ⟨rfl, rfl, h⟩ | ⟨_, h⟩
      · exact h.2
      · exact h.2
    have hn1 : L1.length ≤ 1000 := by rw [HL.out]; exact hn
    have g0 : (0 : Int) ≤ 2 * (k : Int) + 1 := by omega
    have q1 : decide (2 * (k : Int) + 1 < 0) = false := by simp; omega

    by_cases h1 : n ≤ 2 * k + 1
    · have g1 : ¬ 2 * (k : Int) + 1 < (n : Int) := by omega
      have g1' : decide ((n : Int) ≤ 2 * (k : Int) + 1) = true := by simp; omega
      go_wp2
      all_goals (go_ret; refine ⟨_, rfl, L1, m1, hrep, hcons, hperm, hsame, ?_, honly⟩; exact down_end hst (fun t h0 hlt hp => by rcases par_kids h0 hp with rfl | rfl <;> omega) _ (by first | omega | (simp; done) | (simp; omega)))
    · have Hkl := Lib.hid (at_fn (L := L1) (i := k) (by rw [HL.out]; omega))
      have g1 : 2 * (k : Int) + 1 < (n : Int) := by omega
      have g1' : decide ((n : Int) ≤ 2 * (k : Int) + 1) = false := by simp; omega
      by_cases h2 : 2 * k + 2 < n
      · have Hl := Lib.hid (at_fn (L := L1) (i := 2 * k + 1) (by rw [HL.out]; omega))
        have Hr := Lib.hid (at_fn (L := L1) (i := 2 * k + 2) (by rw [HL.out]; omega))
        have g2 : (2 * (k : Int) + 1 + 1) < (n : Int) := by omega
        have e2 : ((2 * k + 2 : Nat) : Int) = 2 * (k : Int) + 1 + 1 := by omega
        have e1 : ((2 * k + 1 : Nat) : Int) = 2 * (k : Int) + 1 := by omega
        have r0 := less_any (i := 2 * k + 2) (k := 2 * k + 1) hrep hn1 Hr.out Hl.out
        rw [e2, e1] at r0
        have R0 := Lib.hid r0
        clear r0 e2 e1
        by_cases hr : (fn L1 (2 * k + 2)).bef (fn L1 (2 * k + 1)) = true
        · have hpj : par (2 * k + 2) = k := par_right k
          have hjn : 2 * k + 2 < n := h2
          have hall : ∀ t, 0 < t → t < n → par t = k → (fn L1 t).bef (fn L1 (2 * k + 2)) = false := by
            intro t h0 _ hp
            rcases par_kids h0 hp with rfl | rfl
            · exact bef_asymm hr
            · exact bef_irrefl _
          have Hj := Hr
          by_cases hb : (fn L1 (2 * k + 2)).bef (fn L1 k) = true
          · have Hrel : Hid (DnI (fn (swp L1 k (2 * k + 2) (fn L1 k) (fn L1 (2 * k + 2)))) n (2 * k + 2)) := by
              show DnI _ _ _
              rw [fn_swp Hkl.out Hj.out]
              exact heap_down_step hA hB hpj (by omega) hjn hall hb
            go_wp2_with fail
            refine R0.out.mono ?_
            rintro e w1 ⟨rfl, ho1⟩
            go_wp2_with fail
            refine (less_any (hrep.quiet ho1) hn1 Hj.out Hkl.out).mono ?_
            rintro e w2 ⟨rfl, ho2⟩
            go_wp2_with fail
            refine (swap_any ((hrep.quiet ho1).quiet ho2) hn1 Hkl.out Hj.out).mono ?_
            rintro e w3 ⟨rfl, hrep3, ho3⟩
            go_wp2
            go_roundw
            case rel =>
              refine ⟨2 * k + 2, _, _, by go_num, by omega, (show Hid _ from (swp_length ..).trans HL.out), hrep3, hcons.swp Hkl.out Hj.out, (swp_perm Hkl.out Hj.out).trans hperm, ?_, .inr ⟨by omega, Hrel.out⟩, (((honly.trans ho1 (fun _ _ h => h.elim)).trans ho2 (fun _ _ h => h.elim))).trans' ho3⟩
              intro t ht
              rw [swp_at Hkl.out Hj.out, if_neg (by omega), if_neg (by omega)]
              exact hsame t ht
            case measure => simp [intOf]; omega
          · have hb' : (fn L1 (2 * k + 2)).bef (fn L1 k) = false := by simpa using hb
            go_wp2_with fail
            refine R0.out.mono ?_
            rintro e w1 ⟨rfl, ho1⟩
            go_wp2_with fail
            refine (less_any (hrep.quiet ho1) hn1 Hj.out Hkl.out).mono ?_
            rintro e w2 ⟨rfl, ho2⟩
            go_wp2
            all_goals (go_ret; refine ⟨_, rfl, L1, m1, (hrep.quiet ho1).quiet ho2, hcons, hperm, hsame, ?_, ((honly.trans ho1 (fun _ _ h => h.elim)).trans ho2 (fun _ _ h => h.elim))⟩; exact down_end hst (fun t h0 hlt hp => bef_trans (hall t h0 hlt hp) hb') _ (by first | omega | (simp; done) | (simp; omega)))
        · have hr' : (fn L1 (2 * k + 2)).bef (fn L1 (2 * k + 1)) = false := by simpa using hr
          have hpj : par (2 * k + 1) = k := par_left k
          have hjn : 2 * k + 1 < n := by omega
          have hall : ∀ t, 0 < t → t < n → par t = k → (fn L1 t).bef (fn L1 (2 * k + 1)) = false := by
            intro t h0 _ hp
            rcases par_kids h0 hp with rfl | rfl
            · exact bef_irrefl _
            · exact hr'
          have Hj := Hl
          by_cases hb : (fn L1 (2 * k + 1)).bef (fn L1 k) = true
          · have Hrel : Hid (DnI (fn (swp L1 k (2 * k + 1) (fn L1 k) (fn L1 (2 * k + 1)))) n (2 * k + 1)) := by
              show DnI _ _ _
              rw [fn_swp Hkl.out Hj.out]
              exact heap_down_step hA hB hpj (by omega) hjn hall hb
            go_wp2_with fail
            refine R0.out.mono ?_
            rintro e w1 ⟨rfl, ho1⟩
            go_wp2_with fail
            refine (less_any (hrep.quiet ho1) hn1 Hj.out Hkl.out).mono ?_
            rintro e w2 ⟨rfl, ho2⟩
            go_wp2_with fail
            refine (swap_any ((hrep.quiet ho1).quiet ho2) hn1 Hkl.out Hj.out).mono ?_
            rintro e w3 ⟨rfl, hrep3, ho3⟩
            go_wp2
            go_roundw
            case rel =>
              refine ⟨2 * k + 1, _, _, by go_num, by omega, (show Hid _ from (swp_length ..).trans HL.out), hrep3, hcons.swp Hkl.out Hj.out, (swp_perm Hkl.out Hj.out).trans hperm, ?_, .inr ⟨by omega, Hrel.out⟩, (((honly.trans ho1 (fun _ _ h => h.elim)).trans ho2 (fun _ _ h => h.elim))).trans' ho3⟩
              intro t ht
              rw [swp_at Hkl.out Hj.out, if_neg (by omega), if_neg (by omega)]
              exact hsame t ht
            case measure => simp [intOf]; omega
          · have hb' : (fn L1 (2 * k + 1)).bef (fn L1 k) = false := by simpa using hb
            go_wp2_with fail
            refine R0.out.mono ?_
            rintro e w1 ⟨rfl, ho1⟩
            go_wp2_with fail
            refine (less_any (hrep.quiet ho1) hn1 Hj.out Hkl.out).mono ?_
            rintro e w2 ⟨rfl, ho2⟩
            go_wp2
            all_goals (go_ret; refine ⟨_, rfl, L1, m1, (hrep.quiet ho1).quiet ho2, hcons, hperm, hsame, ?_, ((honly.trans ho1 (fun _ _ h => h.elim)).trans ho2 (fun _ _ h => h.elim))⟩; exact down_end hst (fun t h0 hlt hp => bef_trans (hall t h0 hlt hp) hb') _ (by first | omega | (simp; done) | (simp; omega)))
      · have Hj := Lib.hid (at_fn (L := L1) (i := 2 * k + 1) (by rw [HL.out]; omega))
        have g2 : ¬ (2 * (k : Int) + 1 + 1) < (n : Int) := by omega
        have g3 : decide ((2 * (k : Int) + 1 + 1) < (n : Int)) = false := by simpa using g2
        have hpj : par (2 * k + 1) = k := par_left k
        have hjn : 2 * k + 1 < n := by omega
        have hall : ∀ t, 0 < t → t < n → par t = k → (fn L1 t).bef (fn L1 (2 * k + 1)) = false := by
          intro t h0 hlt hp
          rcases par_kids h0 hp with rfl | rfl
          · exact bef_irrefl _
          · omega
        by_cases hb : (fn L1 (2 * k + 1)).bef (fn L1 k) = true
        · have Hrel : Hid (DnI (fn (swp L1 k (2 * k + 1) (fn L1 k) (fn L1 (2 * k + 1)))) n (2 * k + 1)) := by
            show DnI _ _ _
            rw [fn_swp Hkl.out Hj.out]
            exact heap_down_step hA hB hpj (by omega) hjn hall hb
          go_wp2_with fail
          refine (less_any (hrep) hn1 Hj.out Hkl.out).mono ?_
          rintro e w2 ⟨rfl, ho2⟩
          go_wp2_with fail
          refine (swap_any ((hrep).quiet ho2) hn1 Hkl.out Hj.out).mono ?_
          rintro e w3 ⟨rfl, hrep3, ho3⟩
          go_wp2
          go_roundw
          case rel =>
            refine ⟨2 * k + 1, _, _, by go_num, by omega, (show Hid _ from (swp_length ..).trans HL.out), hrep3, hcons.swp Hkl.out Hj.out, (swp_perm Hkl.out Hj.out).trans hperm, ?_, .inr ⟨by omega, Hrel.out⟩, ((honly.trans ho2 (fun _ _ h => h.elim))).trans' ho3⟩
            intro t ht
            rw [swp_at Hkl.out Hj.out, if_neg (by omega), if_neg (by omega)]
            exact hsame t ht
          case measure => simp [intOf]; omega
        · have hb' : (fn L1 (2 * k + 1)).bef (fn L1 k) = false := by simpa using hb
          go_wp2_with fail
          refine (less_any (hrep) hn1 Hj.out Hkl.out).mono ?_
          rintro e w2 ⟨rfl, ho2⟩
          go_wp2
          all_goals (go_ret; refine ⟨_, rfl, L1, m1, (hrep).quiet ho2, hcons, hperm, hsame, ?_, (honly.trans ho2 (fun _ _ h => h.elim))⟩; exact down_end hst (fun t h0 hlt hp => bef_trans (hall t h0 hlt hp) hb') _ (by first | omega | (simp; done) | (simp; omega)))
end Go.Proofs.Ytgabgdeakeliaaa
