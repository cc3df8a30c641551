/- due: container/heap over the list. -/
import Derived.Test.YtgabgdeakeliaaaDu3
import Derived.Deep.LoopGhost
import Derived.Handy
namespace Go.Proofs.Ytgabgdeakeliaaa
open Go.RowKit Go.Dm

@[go_sem] theorem call_less (a : Addr) (args : Array Value) (w : World) : (callMethod (.iface 47 (.pointer (some a))) "Less" args).run Try.prog w = .ok (.enter 39 (#[.pointer (some a)] ++ args)) w := by kernel_rfl
@[go_sem] theorem call_swap (a : Addr) (args : Array Value) (w : World) : (callMethod (.iface 47 (.pointer (some a))) "Swap" args).run Try.prog w = .ok (.enter 42 (#[.pointer (some a)] ++ args)) w := by kernel_rfl
@[go_sem] theorem call_len (a : Addr) (args : Array Value) (w : World) : (callMethod (.iface 47 (.pointer (some a))) "Len" args).run Try.prog w = .ok (.enter 38 (#[.pointer (some a)] ++ args)) w := by kernel_rfl
@[go_sem] theorem call_pop (a : Addr) (args : Array Value) (w : World) : (callMethod (.iface 47 (.pointer (some a))) "Pop" args).run Try.prog w = .ok (.enter 40 (#[.pointer (some a)] ++ args)) w := by kernel_rfl
@[go_sem] theorem call_push (a : Addr) (args : Array Value) (w : World) : (callMethod (.iface 47 (.pointer (some a))) "Push" args).run Try.prog w = .ok (.enter 41 (#[.pointer (some a)] ++ args)) w := by kernel_rfl

set_option maxHeartbeats 8000000 in
set_option maxRecDepth 100000 in
theorem up_any {w : World} {lb mb : Nat} {v : Value} {L : List Ent} {m : List (Nm × Value)} (h : LRep w lb mb v L m) (hc : Cons L m) (hn : L.length ≤ 1000) {n j : Nat} (hj : j < n) (hnl : n ≤ L.length) (hu : UpI (fn L) n j) :
    Calls Try.prog 19 #[.iface 47 (.pointer (some ⟨lb, 0, none⟩)), .int .i64 (j : Int)] w fun e w' => e = .returned (.tuple #[]) ∧
      ∃ L' m', LRep w' lb mb v L' m' ∧ Cons L' m' ∧ L'.Perm L ∧ (∀ t, n ≤ t → L'[t]? = L[t]?) ∧ HeapTo (fn L') n ∧ Only (fun c => c = mb ∨ v.ownBlock = some c) w w' := by
  generalize hN : L.length = N at *
  have HN := Lib.hid hN
  clear hN
  go_enter Try.func19, Try.ntmps19
  go_wp2_with fail
  go_loopw [1] (fun jv wr => ∃ (k : Nat) (L1 : List Ent) (m1 : List (Nm × Value)), jv = .int .i64 (k : Int) ∧ k < n ∧ Hid (L1.length = N) ∧ LRep wr lb mb v L1 m1 ∧ Cons L1 m1 ∧ L1.Perm L ∧ (∀ t, n ≤ t → L1[t]? = L[t]?) ∧ UpI (fn L1) n k ∧ Only (fun c => c = mb ∨ v.ownBlock = some c) w wr) (fun jv _ => (intOf jv).toNat)
  case atStart => exact ⟨j, L, m, rfl, hj, HN, h, hc, List.Perm.refl _, fun _ _ => rfl, hu, Only.refl _ _⟩
  case round =>
    obtain ⟨k, L1, m1, rfl, hk, HL, hrep, hcons, hperm, hsame, hup, honly⟩ := hrel
    clear h hc hu
    by_cases hk0 : k = 0
    · subst hk0
      go_wp2_with fail
      go_end0
      exact ⟨rfl, L1, m1, hrep, hcons, hperm, hsame, heap_up_done hup (.inl rfl), honly⟩
    · obtain ⟨p, hp⟩ : ∃ p, p = par k := ⟨_, rfl⟩
      have hpk : p < k := by rw [hp]; unfold par; omega
      have hpi : ((k : Int) - 1).tdiv 2 = (p : Int) := by
        have : ((k : Int) - 1) = ((k - 1 : Nat) : Int) := by omega
        rw [this, hp]; rfl
      have hk1 : (0 : Int) ≤ (k : Int) - 1 := by omega
      have heq : ((p : Int) == (k : Int)) = false := by rw [beq_eq_false_iff_ne]; omega
      have hkl : L1[k]? = some (fn L1 k) := at_fn (by rw [HL.out]; omega)
      have hpl : L1[p]? = some (fn L1 p) := at_fn (by rw [HL.out]; omega)
      have Hkl := Lib.hid hkl
      have Hpl := Lib.hid hpl
      have Hp := Lib.hid hp
      have hn1 : L1.length ≤ 1000 := by rw [HL.out]; exact hn
      clear hkl hpl hp
      by_cases hb : (fn L1 k).bef (fn L1 p) = true
      · have Hrel : Hid (UpI (fn (swp L1 p k (fn L1 p) (fn L1 k))) n p) := by
          show UpI _ _ _
          rw [fn_swp Hpl.out Hkl.out, Hp.out]
          refine heap_up_step hup (by omega) hk ?_
          rw [← Hp.out]; exact hb
        go_wp2_with (go_at_call 39; refine (less_any hrep hn1 Hkl.out Hpl.out).mono ?_; rintro e w1 ⟨rfl, ho1⟩)
        refine (swap_any (hrep.quiet ho1) hn1 Hpl.out Hkl.out).mono ?_
        rintro e w2 ⟨rfl, hrep2, ho2⟩
        go_wp2
        go_roundw
        case rel =>
          refine ⟨p, _, _, rfl, by omega, (show Hid _ from (swp_length ..).trans HL.out), hrep2, hcons.swp Hpl.out Hkl.out, (swp_perm Hpl.out Hkl.out).trans hperm, ?_, Hrel.out, (honly.trans ho1 (fun _ _ h => h.elim)).trans' ho2⟩
          intro t ht
          rw [swp_at Hpl.out Hkl.out, if_neg (by omega), if_neg (by omega)]
          exact hsame t ht
        case measure => simp [intOf]; omega
      · have hb' : (fn L1 k).bef (fn L1 p) = false := by simpa using hb
        go_wp2_with (go_at_call 39; refine (less_any hrep hn1 Hkl.out Hpl.out).mono ?_; rintro e w1 ⟨rfl, ho1⟩)
        go_end0
        refine ⟨rfl, L1, m1, hrep.quiet ho1, hcons, hperm, hsame, heap_up_done hup (.inr ?_), honly.trans ho1 (fun _ _ h => h.elim)⟩
        rw [← Hp.out]; exact hb'
end Go.Proofs.Ytgabgdeakeliaaa
