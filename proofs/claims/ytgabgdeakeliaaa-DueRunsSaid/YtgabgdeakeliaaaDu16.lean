/- due: the walk of DueRuns. -/
import Derived.Test.YtgabgdeakeliaaaDu15
namespace Go.Proofs.Ytgabgdeakeliaaa
open Go.RowKit Go.Dm
set_option linter.unusedVariables false
set_option linter.unusedSimpArgs false

@[go_sem] theorem ent_val_eq' (e : Ent) : e.val = .agg #[.int .i64 e.at_, .int .i64 e.kind, .int .u64 e.num, .int .i64 e.node] := rfl
@[go_sem] theorem e0_at' : e0.at_ = 0 := rfl
@[go_sem] theorem e0_kind' : e0.kind = 0 := rfl
@[go_sem] theorem e0_num' : e0.num = 0 := rfl
@[go_sem] theorem e0_node' : e0.node = 0 := rfl

def Loop (w wr : World) (k qb n i : Nat) (v : Value) : Prop := ∃ (M Q : List Ent), i ≤ n ∧ i ≤ 60 ∧ M.length ≤ i ∧ St wr k qb v M Q ∧ Only (fun _ => False) w wr

set_option maxHeartbeats 16000000 in
set_option maxRecDepth 100000 in
theorem dueRuns_walk {w : World} {a : Option Addr} {n cap : Nat} {L : List Opn} (h : ArgRow w 5 Opn.cells a n L) (hmx : n ≤ maxLen) :
    Calls Try.prog 5 #[.slice a n cap] w fun e w' => e = .returned (.bool true) ∧ Below w.heap.size w w' := by
  generalize hk : w.heap.size = k
  have Hk := Lib.hid hk
  have Ha := Lib.hid h
  have hln := Lib.hid h.len
  clear hk h
  go_enter Try.func5, Try.ntmps5
  go_wp2_with fail
  refine (head_any _).mono ?_
  rintro e w1 ⟨rfl, ho1⟩
  go_wp2_with fail
  refine (new_any _).mono ?_
  rintro e w2 ⟨qb, rfl, hq2, ho2⟩
  have hz1 := ho1.size
  rw [Hk.out] at hz1
  have hz2 := ho2.size
  have ho12 := ho1.trans' ho2
  go_wp2_with fail
  have hoS : Only (fun _ => False) w2 (w2.alloc (.cells #[] 32)) := by
    repeat' (first | exact Only.refl _ _ | refine Only.drewN ?_ _ | refine Only.drew ?_ | refine Only.alloc ?_ _ | refine Only.setCell ?_ (fun _ => by simp) _ | refine Only.setBlk ?_ (fun _ => by simp) _)
  have hrow0 : (w2.alloc (.cells #[] 32)).ownsRow 0 32 4 (.slice (some ⟨w2.heap.size, 0, none⟩) 0 0) 0 (flat []) := ⟨rfl, .inr ⟨_, _, #[], rfl, Nat.zero_le _, blk_alloc_new, Nat.le_refl _, Nat.zero_le _, rfl, rfl⟩⟩
  have hS : St (w2.alloc (.cells #[] 32)) k qb (.slice (some ⟨w2.heap.size, 0, none⟩) 0 0) [] [] := by
    refine ⟨⟨_, hq2.bound.only hoS (fun _ h _ => h), fun c hc => Nat.le_trans hz1 hc.1, fun c hc hf => ?_⟩, hrow0, fun c hc => ?_, List.Perm.refl _⟩
    · have : c = w2.heap.size := by simpa [Value.ownBlock] using hc.symm
      exact Nat.lt_irrefl _ (this ▸ hf.2)
    · have : c = w2.heap.size := by simpa [Value.ownBlock] using hc.symm
      rw [this]
      exact Nat.le_trans hz1 hz2
  have ho := ho12.trans' hoS
  clear ho12 hoS hrow0 ho1 ho2 hq2
  go_loopw [4, 5] (fun ov iv wr => ∃ (i : Nat), iv = .int .i64 (i : Int) ∧ Hid (Loop w wr k qb n i ov)) (fun _ iv _ => n - (intOf iv).toNat)
  case atStart => exact ⟨0, rfl, show Loop .. from ⟨[], [], Nat.zero_le _, by omega, Nat.le_refl _, hS, ho⟩⟩
  case round =>
    obtain ⟨i, rfl, HL⟩ := hrel
    clear hS ho
    by_cases hin : (i : Int) < (n : Int)
    · by_cases hi60 : (i : Int) < 60
      · have hx : L[i]? = some (L.getD i o0) := by
          rw [List.getD_eq_getElem?_getD, List.getElem?_eq_getElem (by rw [hln.out]; omega)]; rfl
        obtain ⟨M, Q, hi1, hi2, hM, hS, ho⟩ := HL.out
        obtain ⟨b, o, ha, hbk, c0, c1, c2, c3, c4⟩ := Ha.out.opAt ho.below hx
        subst ha
        have hkr : b < wr.heap.size := Nat.lt_of_lt_of_le hbk ho.size
        have hkw := ho.size
        rw [Hk.out] at hkw
        generalize L.getD i o0 = x at *
        clear hx
        have hoA : Only (fun _ => False) wr (wr.alloc (.cells #[.int .i64 x.k, .int .i64 x.kind, .int .u64 x.num, .int .i64 x.node, .int .i64 x.at_] 44)) := by
          repeat' (first | exact Only.refl _ _ | refine Only.drewN ?_ _ | refine Only.drew ?_ | refine Only.alloc ?_ _ | refine Only.setCell ?_ (fun _ => by simp) _ | refine Only.setBlk ?_ (fun _ => by simp) _)
        have hsx : (wr.alloc (.cells #[.int .i64 x.k, .int .i64 x.kind, .int .u64 x.num, .int .i64 x.node, .int .i64 x.at_] 44)).heap[wr.heap.size]? = _ := blk_alloc_new
        have hSA := hS.quiet hoA
        obtain ⟨F, hqF, hF1, hF2⟩ := hS.ex
        have hqA := hqF.bound.only hoA (fun _ h _ => h)
        have hob := hS.ob
        have hperm := hS.perm
        have hgl : ∀ c, _ → c < wr.heap.size := fun c hc => own_lt hS.own hc
        have hoAA := ho.trans' hoA
        obtain ⟨ad, cv, rfl⟩ := row_slice hS.own
        generalize hN : M.length = N at *
        have HN := Lib.hid hN
        clear hN
        go_wp2_with fail
        obtain ⟨eb, heb⟩ : ∃ eb, eb = wr.heap.size := ⟨_, rfl⟩
        rw [← heb] at hsx hkw hqA hgl
        rw [← heb]
        generalize wr.alloc (.cells #[.int .i64 x.k, .int .i64 x.kind, .int .u64 x.num, .int .i64 x.node, .int .i64 x.at_] 44) = wa at *
        clear c0 c1 c2 c3 c4 hoA hS ho heb hkr hbk HL hqF
        have HMi := Lib.hid hM
        go_loopw [7, 37] (fun av jv wv => ∃ (j : Nat) (f : Int), av = .int .i64 f ∧ jv = .int .i64 (j : Int) ∧ j ≤ N ∧ Hid (Found M x.nm j f) ∧ Only (fun _ => False) wa wv) (fun _ jv _ => N - (intOf jv).toNat)
        case atStart => exact ⟨0, -1, rfl, rfl, Nat.zero_le _, Found.start _ _, Only.refl _ _⟩
        case round =>
          obtain ⟨j, f, rfl, rfl, hj, HF, ho⟩ := hrel
          have hS := hSA.quiet ho
          have hsxr := ho.blk hsx id
          have n0 := cell_of_blk hsxr 0
          have n1 := cell_of_blk hsxr 1
          have n2 := cell_of_blk hsxr 2
          have n3 := cell_of_blk hsxr 3
          have n4 := cell_of_blk hsxr 4
          simp only [List.getElem?_toArray, List.getElem?_cons_zero, List.getElem?_cons_succ] at n0 n1 n2 n3 n4
          have zeb := blk_lt hsxr
          by_cases hjN : (j : Int) < (N : Int)
          · as_aux_lemma =>
              have hy : M[j]? = some (fn M j) := at_fn (by rw [HN.out]; omega)
              have hrow := hS.own
              obtain ⟨g, cg, cur, hv, hg, hcap, hmxc, hcs⟩ := row_some hrow (by rw [HN.out]; omega)
              rw [HN.out] at hv
              injection hv with hv1 hv2 hv3
              subst hv1; subst hv3
              have hrow2 : wr.ownsRow 0 32 4 (.slice (some ⟨g, 0, none⟩) M.length cv) M.length (flat M) := by rw [HN.out]; rw [HN.out] at hrow; exact hrow
              obtain ⟨y0, y1, y2, y3⟩ := row_cells hrow2 hy
              have zg := blk_lt hg
              generalize fn M j = y at *
              have Hy := Lib.hid hy
              clear hy hrow hrow2 hS
              have hoC : Only (fun _ => False) wr (wr.alloc (.cells #[.int .i64 y.at_, .int .i64 y.kind, .int .u64 y.num, .int .i64 y.node] 32)) := by
                repeat' (first | exact Only.refl _ _ | refine Only.drewN ?_ _ | refine Only.drew ?_ | refine Only.alloc ?_ _ | refine Only.setCell ?_ (fun _ => by simp) _ | refine Only.setBlk ?_ (fun _ => by simp) _)
              have hall := ho.trans' hoC
              clear ho hoC
              by_cases hkd : y.kind = x.kind
              · have hkd' : (y.kind == x.kind) = true := by simp [hkd]
                by_cases h1 : y.num = x.num
                · have h1' : (y.num == x.num) = true := by simp [h1]
                  by_cases h2 : y.node = x.node
                  · have h2' : (y.node == x.node) = true := by simp [h2]
                    have hnm : y.nm = x.nm := by unfold Ent.nm Opn.nm; rw [hkd, h1, h2]
                    clear hkd h1 h2
                    go_wp2_with fail
                    go_roundw
                    case rel => exact ⟨j + 1, (j : Int), rfl, by simp, by omega, Found.take Hy.out hnm, hall⟩
                    case measure => simp [intOf]; omega
                  · have h2' : (y.node == x.node) = false := by simp [h2]
                    have hnm : y.nm ≠ x.nm := fun h => h2 (by unfold Ent.nm Opn.nm at h; injection h)
                    clear hkd h1 h2
                    go_wp2_with fail
                    go_roundw
                    case rel => exact ⟨j + 1, f, rfl, by simp, by omega, Found.skip HF.out Hy.out hnm, hall⟩
                    case measure => simp [intOf]; omega
                · have h1' : (y.num == x.num) = false := by simp [h1]
                  have hnm : y.nm ≠ x.nm := fun h => h1 (by unfold Ent.nm Opn.nm at h; injection h)
                  clear hkd h1
                  go_wp2_with fail
                  go_roundw
                  case rel => exact ⟨j + 1, f, rfl, by simp, by omega, Found.skip HF.out Hy.out hnm, hall⟩
                  case measure => simp [intOf]; omega
              · have hkd' : (y.kind == x.kind) = false := by simp [hkd]
                have hnm : y.nm ≠ x.nm := fun h => hkd (by unfold Ent.nm Opn.nm at h; injection h)
                clear hkd
                go_wp2_with fail
                go_roundw
                case rel => exact ⟨j + 1, f, rfl, by simp, by omega, Found.skip HF.out Hy.out hnm, hall⟩
                case measure => simp [intOf]; omega
          · have hjN2 : (N : Int) ≤ (j : Int) := by omega
            have hjeq : j = N := by omega
            have hfd := (show Found M x.nm M.length f by rw [HN.out, ← hjeq]; exact HF.out).done
            clear hjeq
            have hq := hqA.only ho (fun _ h _ => h)
            have hown := hS.own
            have hall := hoAA.trans' ho
            have hkr : k ≤ wr.heap.size := Nat.le_trans hkw (Nat.le_of_lt zeb)
            have hFk : ∀ c, (F c ∧ c < eb) → k ≤ c := fun c h => hF1 c h.1
            have hFo : ∀ c, (Value.slice ad N cv).ownBlock = some c → ¬ (F c ∧ c < eb) := fun c h hf => hF2 c h hf.1
            have hQn : Q.length = N := hperm.length_eq.trans HN.out
            have HQn := Lib.hid hQn
            have Hfd := Lib.hid hfd
            have hnmQ := hq.names
            rw [HN.out] at hown
            have hQ60 : Q.length < 1000 := by rw [hQn]; omega
            clear hQn hfd hSA hqA hoAA ho hS hj HF hsx
            by_cases hk0 : x.k = 0
            · have hk0' : (x.k == 0) = true := by simp [hk0]
              clear hk0
              as_aux_lemma =>
                go_wp2_with fail
                refine (set_any hq (by omega) x.nm x.at_).mono ?_
                rintro e w3 ⟨rfl, Q2, hQ2, hq3, ho3⟩
                have HQ2 := Lib.hid hQ2
                have HnmQ := Lib.hid hnmQ
                clear hQ2 hnmQ
                have hsx3 := ho3.blk hsxr (fun h => Nat.lt_irrefl _ h.2)
                obtain ⟨hown3, F3, hqF3, hF3k, hF3o⟩ := St.queue (L := M) hkr hFk hFo (by rw [HN.out]; exact hown) hob hq3 ho3
                rw [HN.out] at hown3
                have hall3 := Only.newS hall ho3 (fun c hc => by rw [Hk.out]; exact hFk c hc)
                have n0' := cell_of_blk hsx3 0
                have n1' := cell_of_blk hsx3 1
                have n2' := cell_of_blk hsx3 2
                have n3' := cell_of_blk hsx3 3
                have n4' := cell_of_blk hsx3 4
                simp only [List.getElem?_toArray, List.getElem?_cons_zero, List.getElem?_cons_succ] at n0' n1' n2' n3' n4'
                have zeb3 := blk_lt hsx3
                have hk3r : k ≤ w3.heap.size := by omega
                rcases Hfd.out with ⟨rfl, hno⟩ | ⟨fa, fy, rfl, hfy, hfn⟩
                · have HQ3 := Lib.hid (set_new (o := x) hperm HnmQ.out HQ2.out hno)
                  obtain ⟨i0, hinf, hz0, hz1, hz2⟩ := info_parts info32
                  have Hinf := Lib.hid hinf
                  have Hz0 := Lib.hid hz0
                  have Hz1 := Lib.hid hz1
                  have Hz2 := Lib.hid hz2
                  clear hinf hz0 hz1 hz2 hno n0 n1 n2 n3 n4
                  go_wp2_with (refine wpList_append_own_at _ rfl _ _ 22 rfl 0 32 i0 (.agg #[.int .i64 0, .int .i64 0, .int .u64 0, .int .i64 0]) 4 32 und22 Hinf.out Hz0.out Hz1.out Hz2.out rfl (by decide) (.slice ad N cv) N (flat M) rfl (hown3.alloc _) ⟨w3.heap.size, 0, none⟩ 1 1 x.ent.cells rfl rfl ?c1 ?c2 (by unfold maxLen; omega) (by omega) (Nat.zero_le _) ?_)
                  case c1 =>
                    intro j u hj
                    rw [add_none, Nat.zero_add]
                    exact (cell_of_blk blk_alloc_new j).trans (by simpa [Ent.cells, Opn.ent] using hj)
                  case c2 => simp [Ent.cells, Value.oneCell']
                  intro v' w4 hown4 hgrow4 _ hloc4
                  rw [show flat M ++ x.ent.cells = flat (M ++ [x.ent]) by rw [flat_append]; simp [flat]] at hown4
                  have ho4 : Only (fun c => some c = (Value.slice ad N cv).ownBlock) w3 w4 := ((Only.refl _ _).alloc _).trans' (Only.of_grown hgrow4)
                  have hall4 := Only.newS hall3 ho4 (fun c hc => by rw [Hk.out]; exact hob c hc.symm)
                  have hlen4 : (M ++ [x.ent]).length = N + 1 := by simp [HN.out]
                  have hS5 : St w4 k qb v' (M ++ [x.ent]) Q2 := St.list (v := .slice ad N cv) hk3r ⟨F3, hqF3, hF3k, hF3o⟩ hob ho4 (fun c hc => hc.symm) (fun c hc => hloc4.elim (fun h => .inl (by rw [← h]; exact hc)) fun h => .inr (by rw [h] at hc; injection hc with hc; omega)) (by rw [hlen4]; exact hown4) HQ3.out
                  obtain ⟨ad4, cap4, rfl⟩ := row_slice hown4
                  have hl5 : Q2.length = N + 1 := HQ3.out.length_eq.trans hlen4
                  have Hl5 := Lib.hid hl5
                  obtain ⟨F5, hq5, hf5a, hf5b⟩ := hS5.ex
                  clear hl5 hown4 hgrow4 hloc4 hqF3 hq3 hown3
                  go_wp2_with fail
                  refine (qlen_any hq5).mono ?_
                  rintro e wz ⟨rfl, rfl⟩
                  rw [Hl5.out]
                  go_wp2_with fail
                  go_roundw
                  case rel => exact ⟨i + 1, by simp, show Loop .. from ⟨M ++ [x.ent], Q2, by omega, by omega, (by rw [hlen4]; omega), hS5, hall4⟩⟩
                  case measure => simp [intOf]; omega

                · obtain ⟨g, cg, cur, hv, hg, hcap, hmxc, hcs⟩ := row_some (w := w3) (L := M) (by rw [HN.out]; exact hown3) (by have := (List.getElem?_eq_some_iff.1 hfy).1; omega)
                  rw [HN.out] at hv
                  injection hv with hv1 hv2 hv3
                  subst hv1; subst hv3
                  have hfN : fa < N := by have := (List.getElem?_eq_some_iff.1 hfy).1; rw [HN.out] at this; exact this
                  have HQ3 := Lib.hid (set_found (o := x) hperm HnmQ.out HQ2.out hfy hfn)
                  have hown3' : w3.ownsRow 0 32 4 (.slice (some ⟨g, 0, none⟩) M.length cv) M.length (flat M) := by rw [HN.out]; exact hown3
                  obtain ⟨y0, y1, y2, y3⟩ := row_cells hown3' hfy
                  have hfz := free_of_blk hg (fa * 4)
                  have zg := blk_lt hg
                  have hst := (hown3.stored (fa * 4) (.int .i64 x.at_)).1
                  rw [show (flat M).set (fa * 4) (.int .i64 x.at_) = flat (M.set fa x.ent) from flat_at0 (y := x.ent) hfy hfn.symm] at hst
                  have hos : Only (fun c => c = g) w3 (w3.setCell ⟨g, fa * 4, none⟩ (.int .i64 x.at_)) := by
                    repeat' (first | exact Only.refl _ _ | refine Only.drewN ?_ _ | refine Only.drew ?_ | refine Only.alloc ?_ _ | refine Only.setCell ?_ (fun _ => by simp) _ | refine Only.setBlk ?_ (fun _ => by simp) _)
                  have hlen4 : (M.set fa x.ent).length = N := by rw [List.length_set]; exact HN.out
                  have hS5 : St (w3.setCell ⟨g, fa * 4, none⟩ (.int .i64 x.at_)) k qb (.slice (some ⟨g, 0, none⟩) N cv) (M.set fa x.ent) Q2 := St.list (v := .slice (some ⟨g, 0, none⟩) N cv) hk3r ⟨F3, hqF3, hF3k, hF3o⟩ hob hos (fun c hc => by rw [hc]; rfl) (fun c hc => .inl hc) (by rw [hlen4]; exact hst) HQ3.out
                  have hall4 := Only.newS hall3 hos (fun c hc => by rw [hc, Hk.out]; exact hob g rfl)
                  have hgeb : g ≠ eb := Nat.ne_of_lt (hgl g rfl)
                  have Hl5 := Lib.hid (HQ3.out.length_eq.trans hlen4)
                  obtain ⟨F5, hq5, hf5a, hf5b⟩ := hS5.ex
                  have g0 : (0 : Int) ≤ (fa : Int) := by omega
                  have g1 : (fa : Int) < (N : Int) := by omega
                  have Hfy := Lib.hid hfy
                  have Hfn := Lib.hid hfn
                  clear hfy hfn hown3' hst hqF3 hq3 hown3 hlen4 n0 n1 n2 n3 n4
                  go_wp2_with fail
                  refine (qlen_any hq5).mono ?_
                  rintro e wz ⟨rfl, rfl⟩
                  rw [Hl5.out]
                  go_wp2_with fail
                  go_roundw
                  case rel => exact ⟨i + 1, by simp, show Loop .. from ⟨M.set fa x.ent, Q2, by omega, by omega, (by rw [List.length_set, HN.out]; omega), hS5, hall4⟩⟩
                  case measure => simp [intOf]; omega
            · have hk0' : (x.k == 0) = false := by simp [hk0]
              by_cases hk1 : x.k = 1
              · have hk1' : (x.k == 1) = true := by simp [hk1]
                clear hk0 hk1
                as_aux_lemma =>
                  go_wp2_with fail
                  refine (drop_any hq (Nat.le_of_lt hQ60) x.nm).mono ?_
                  rintro e w3 ⟨Q2, hQ2, hq3, ho3⟩
                  have HnmQ := Lib.hid hnmQ
                  clear hnmQ
                  have hsx3 := ho3.blk hsxr (fun h => Nat.lt_irrefl _ h.2)
                  obtain ⟨hown3, F3, hqF3, hF3k, hF3o⟩ := St.queue (L := M) hkr hFk hFo (by rw [HN.out]; exact hown) hob hq3 ho3
                  rw [HN.out] at hown3
                  have hall3 := Only.newS hall ho3 (fun c hc => by rw [Hk.out]; exact hFk c hc)
                  have zeb3 := blk_lt hsx3
                  have hk3r : k ≤ w3.heap.size := by omega
                  rcases Hfd.out with ⟨rfl, hno⟩ | ⟨fa, fy, rfl, hfy, hfn⟩
                  · rcases hQ2 with ⟨y, hy, hyn, _, _⟩ | ⟨_, hQ2, rfl⟩
                    · exact absurd hyn (hno y (hperm.subset hy))
                    · subst hQ2
                      have hS5 : St w3 k qb (.slice ad N cv) M Q2 := ⟨⟨F3, hqF3, hF3k, hF3o⟩, by rw [HN.out]; exact hown3, hob, hperm⟩
                      clear hno n0 n1 n2 n3 n4 hq3 hown3
                      go_wp2_with fail
                      refine (qlen_any hqF3).mono ?_
                      rintro e wz ⟨rfl, rfl⟩
                      rw [HQn.out]
                      go_wp2_with fail
                      go_roundw
                      case rel => exact ⟨i + 1, by simp, show Loop .. from ⟨M, Q2, by omega, by omega, (by rw [HN.out]; omega), hS5, hall3⟩⟩
                      case measure => simp [intOf]; omega

                  · rcases hQ2 with ⟨y, hy, hyn, hp, rfl⟩ | ⟨hno, _, _⟩
                    · have HP := Lib.hid (out_found hperm HnmQ.out hp hfy (hyn.trans hfn.symm))
                      clear hp hy hyn hfn
                      obtain ⟨g, cg, cur, hv, hg, hcap, hmxc, hcs⟩ := row_some (w := w3) (L := M) (by rw [HN.out]; exact hown3) (by have := (List.getElem?_eq_some_iff.1 hfy).1; omega)
                      rw [HN.out] at hv
                      injection hv with hv1 hv2 hv3
                      subst hv1; subst hv3
                      have hfN : fa < N := by have := (List.getElem?_eq_some_iff.1 hfy).1; rw [HN.out] at this; exact this
                      have hown3' : w3.ownsRow 0 32 4 (.slice (some ⟨g, 0, none⟩) M.length cv) M.length (flat M) := by rw [HN.out]; exact hown3
                      obtain ⟨y0, y1, y2, y3⟩ := row_cells hown3' hfy
                      have zg := blk_lt hg
                      have hgeb : g ≠ eb := Nat.ne_of_lt (hgl g rfl)
                      have g0 : (0 : Int) ≤ (fa : Int) := by omega
                      have g1 : (fa : Int) < (N : Int) := by omega
                      have hcv : N ≤ cv := by rw [← HN.out]; exact hcap
                      clear n0 n1 n2 n3 n4 hq3
                      as_aux_lemma =>
                        obtain ⟨i0, hinf, hz0, hz1, hz2⟩ := info_parts info32
                        have Hinf := Lib.hid hinf
                        have Hz0 := Lib.hid hz0
                        have Hz1 := Lib.hid hz1
                        have Hz2 := Lib.hid hz2
                        have Hfy := Lib.hid hfy
                        have Hown := Lib.hid hown3'
                        clear hinf hz0 hz1 hz2 hfy hown3' hown3
                        obtain ⟨fb, hfb⟩ : ∃ fb : Nat, fb = fa + 1 := ⟨_, rfl⟩
                        have hfi : (fa : Int) + 1 = (fb : Int) := by omega
                        have g2 : (fa : Int) ≤ (cv : Int) := by omega
                        have g3 : (fb : Int) ≤ (N : Int) := by omega
                        have g4 : fb ≤ N := by omega
                        have g5 : (N : Int) ≤ (cv : Int) := by omega
                        have Hfb := Lib.hid hfb
                        clear hfb
                        go_wp2_with fail
                        refine wp_region_segL [2,0,0,0,2,0,0,0,0,2,2] (fun _ => False) (by kernel_rfl) (by kernel_rfl) ?_
                        refine seg_eff rfl ?_
                        go_wp2_with fail
                        refine strict_intro ⟨⟨⟨_, (Only.refl _ _).drew.alloc _⟩, rfl⟩, ?_⟩
                        refine seg_free rfl ?_
                        go_big_quiet_step (fail)
                        refine wpQuiet_nil ?_
                        refine seg_free rfl ?_
                        go_big_quiet_step (fail)
                        refine wpQuiet_nil ?_
                        refine seg_free rfl ?_
                        go_big_quiet_step (fail)
                        refine wpQuiet_nil ?_
                        refine seg_eff rfl ?_
                        have hoA : Only (fun _ => False) w3 (w3.drew.alloc (.cells #[] 32)) := (Only.refl _ _).drew.alloc _
                        have hownA : (w3.drew.alloc (.cells #[] 32)).ownsRow 0 32 4 (.slice (some ⟨w3.heap.size, 0, none⟩) 0 0) 0 (flat []) := ⟨rfl, .inr ⟨_, _, #[], rfl, Nat.zero_le _, blk_alloc_new (w := w3.drew), Nat.le_refl _, Nat.zero_le _, rfl, rfl⟩⟩
                        have hgA := ownsRow_only Hown.out hoA (fun _ _ h => h)
                        have hlt1 : (flat (M.take fa)).length = fa * 4 := by rw [flat_length, List.length_take, HN.out]; omega
                        have hlt2 : (flat (M.drop fb)).length = (N - fb) * 4 := by rw [flat_length, List.length_drop, HN.out]
                        refine wpList_append_own_at _ rfl _ _ 22 rfl 0 32 i0 (.agg #[.int .i64 0, .int .i64 0, .int .u64 0, .int .i64 0]) 4 32 und22 Hinf.out Hz0.out Hz1.out Hz2.out rfl (by decide) (.slice (some ⟨w3.heap.size, 0, none⟩) 0 0) 0 (flat []) rfl hownA ⟨g, 0, none⟩ fa cv (flat (M.take fa)) rfl hlt1 ?c1 (one_cells _) (by unfold maxLen; omega) (by omega) (Nat.zero_le _) ?_
                        case c1 =>
                          have := part_cells hgA 0 (M.take fa) (fun i e he => by rw [Nat.zero_add]; rw [List.getElem?_take] at he; split at he; exact he; cases he)
                          rw [Nat.zero_mul] at this
                          exact this
                        intro v4 w4 hown4 hgrow4 _ hloc4
                        have ho4 : Only (fun _ => False) w3 w4 := Only.newS hoA (Only.of_grown hgrow4) (fun c hc => by simp [Value.ownBlock] at hc; omega)
                        refine wpList_nil (strict_intro ⟨⟨⟨w4, ho4⟩, rfl⟩, ?_⟩)
                        go_frame
                        refine seg_free rfl ?_
                        go_big_quiet_step (fail)
                        refine wpQuiet_nil ?_
                        refine seg_free rfl ?_
                        go_big_quiet_step (fail)
                        refine wpQuiet_nil ?_
                        refine seg_free rfl ?_
                        go_big_quiet_step (fail)
                        refine wpQuiet_nil ?_
                        refine seg_free rfl ?_
                        go_big_quiet_step (fail)
                        refine wpQuiet_nil ?_
                        refine seg_list' _ _ _ _ (by kernel_rfl) ?_
                        have hgA := ownsRow_only Hown.out ho4 (fun _ _ h => h)
                        have hnb : ∀ c, v4.ownBlock = some c → w3.heap.size ≤ c := fun c hc => by
                          rcases hloc4 with h | h
                          · rw [h] at hc; simp [Value.ownBlock] at hc; omega
                          · rw [h] at hc; simp at hc; omega
                        have hfs : Hid (flat (M.take fa) ++ flat (M.drop fb) = flat (M.eraseIdx fa)) := by
                          show _ = _
                          rw [← flat_append, eraseIdx_split, Hfb.out]
                        have h4len : w3.heap.size ≤ w4.heap.size := ho4.size
                        refine wpList_append_own_at _ rfl _ _ 22 rfl 0 32 i0 (.agg #[.int .i64 0, .int .i64 0, .int .u64 0, .int .i64 0]) 4 32 und22 Hinf.out Hz0.out Hz1.out Hz2.out rfl (by decide) v4 (0 + fa) (flat [] ++ flat (M.take fa)) rfl hown4 (if cv = fb then ⟨g, 0, none⟩ else ⟨g, fb * 4, none⟩) (N - fb) (cv - fb) (flat (M.drop fb)) (by change Value.slice (if cv = fb then some ⟨g, 0, none⟩ else some ⟨g, fb * 4, none⟩) (N - fb) (cv - fb) = _; split <;> rfl) hlt2 ?c2 (one_cells _) (by unfold maxLen; omega) (by omega) (Nat.zero_le _) ?_
                        case c2 =>
                          intro j u hj
                          have hjl := (List.getElem?_eq_some_iff.1 hj).1
                          rw [hlt2] at hjl
                          rw [if_neg (by omega)]
                          exact part_cells hgA fb (M.drop fb) (fun i e he => by rw [List.getElem?_drop] at he; exact he) j u hj
                        intro v5 w5 hown5 hgrow5 _ hloc5
                        have e5 : 0 + fa + (N - fb) = N - 1 := by have := Hfb.out; omega
                        rw [e5, show flat [] ++ flat (M.take fa) ++ flat (M.drop fb) = flat (M.eraseIdx fa) from hfs.out] at hown5
                        have ho5 : Only (fun _ => False) w3 w5 := Only.newS ho4 (Only.of_grown hgrow5) (fun c hc => hnb c hc.symm)
                        have hlen5 : (M.eraseIdx fa).length = N - 1 := by rw [List.length_eraseIdx, HN.out, if_pos hfN]
                        have hS5 : St w5 k qb v5 (M.eraseIdx fa) Q2 := St.list (v := .slice (some ⟨g, 0, none⟩) N cv) hk3r ⟨F3, hqF3, hF3k, hF3o⟩ hob ho5 (fun c hc => hc.elim) (fun c hc => .inr (by
                          rcases hloc5 with h | h
                          · exact hnb c (by rw [← h]; exact hc)
                          · rw [h] at hc; injection hc with hc; omega)) (by rw [hlen5]; exact hown5) HP.out
                        have hall5 := hall3.trans' ho5
                        obtain ⟨ad5, cap5, rfl⟩ := row_slice hown5
                        have Hl5 := Lib.hid (HP.out.length_eq.trans hlen5)
                        obtain ⟨F5, hq5, hf5a, hf5b⟩ := hS5.ex
                        clear hown5 hgrow5 hloc5 hnb hown4 hgrow4 hloc4 hgA hownA hfs hlt1 hlt2 hfi
                        generalize (if cv = fb then (some ⟨g, 0, none⟩ : Option Addr) else some ⟨g, fb * 4, none⟩) = adx
                        go_wp2_with fail
                        refine strict_intro ?_
                        go_wp2_with fail
                        refine (qlen_any hq5).mono ?_
                        rintro e wz ⟨rfl, rfl⟩
                        rw [Hl5.out]
                        go_wp2_with fail
                        go_roundw
                        case rel => exact ⟨i + 1, by simp, show Loop .. from ⟨M.eraseIdx fa, Q2, by omega, by omega, (by rw [hlen5]; omega), hS5, hall5⟩⟩
                        case measure => simp [intOf]; omega
                    · exact absurd hfn (hno fy (hperm.symm.subset (List.mem_of_getElem? hfy)))
              · have hk1' : (x.k == 1) = false := by simp [hk1]
                by_cases hk2 : x.k = 2
                · have hk2' : (x.k == 2) = true := by simp [hk2]
                  clear hk0 hk1 hk2
                  as_aux_lemma =>
                    go_wp2_with fail
                    refine (when_any hq (Nat.le_of_lt hQ60) x.nm).mono ?_
                    rintro e w3 ⟨hr, ho3⟩
                    have HnmQ := Lib.hid hnmQ
                    clear hnmQ
                    have hsx3 := ho3.blk hsxr id
                    have hq3 := hq.only ho3 (fun _ h _ => h)
                    have hown3 := ownsRow_only hown ho3 (fun _ _ h => h)
                    have hall3 := hall.trans' ho3
                    have zeb3 := blk_lt hsx3
                    rcases Hfd.out with ⟨rfl, hno⟩ | ⟨fa, fy, rfl, hfy, hfn⟩
                    · rcases hr with ⟨y, hy, hyn, _⟩ | ⟨_, rfl⟩
                      · exact absurd hyn (hno y (hperm.subset hy))
                      · have hS5 : St w3 k qb (.slice ad N cv) M Q := ⟨⟨_, hq3, hFk, hFo⟩, by rw [HN.out]; exact hown3, hob, hperm⟩
                        clear hno n0 n1 n2 n3 n4 hown3 hown
                        go_wp2_with fail
                        refine (qlen_any hq3).mono ?_
                        rintro e wz ⟨rfl, rfl⟩
                        rw [HQn.out]
                        go_wp2_with fail
                        go_roundw
                        case rel => exact ⟨i + 1, by simp, show Loop .. from ⟨M, Q, by omega, by omega, (by rw [HN.out]; omega), hS5, hall3⟩⟩
                        case measure => simp [intOf]; omega

                    · rcases hr with ⟨y, hy, hyn, rfl⟩ | ⟨hno, _⟩
                      · have hyf : y = fy := by
                          obtain ⟨j, hj⟩ := List.mem_iff_getElem?.1 (hperm.subset hy)
                          have := nm_at_inj ((hperm.map Ent.nm).nodup_iff.1 HnmQ.out) hj hfy (hyn.trans hfn.symm)
                          subst this
                          rw [hj] at hfy
                          injection hfy
                        subst hyf
                        obtain ⟨g, cg, cur, hv, hg, hcap, hmxc, hcs⟩ := row_some (w := w3) (L := M) (by rw [HN.out]; exact hown3) (by have := (List.getElem?_eq_some_iff.1 hfy).1; omega)
                        rw [HN.out] at hv
                        injection hv with hv1 hv2 hv3
                        subst hv1; subst hv3
                        have hfN : fa < N := by have := (List.getElem?_eq_some_iff.1 hfy).1; rw [HN.out] at this; exact this
                        have hown3' : w3.ownsRow 0 32 4 (.slice (some ⟨g, 0, none⟩) M.length cv) M.length (flat M) := by rw [HN.out]; exact hown3
                        obtain ⟨y0, y1, y2, y3⟩ := row_cells hown3' hfy
                        have zg := blk_lt hg
                        have hgeb : g ≠ eb := Nat.ne_of_lt (hgl g rfl)
                        have g0 : (0 : Int) ≤ (fa : Int) := by omega
                        have g1 : (fa : Int) < (N : Int) := by omega
                        have hcv : N ≤ cv := by rw [← HN.out]; exact hcap
                        have hS5 : St w3 k qb (.slice (some ⟨g, 0, none⟩) N cv) M Q := ⟨⟨_, hq3, hFk, hFo⟩, by rw [HN.out]; exact hown3, hob, hperm⟩
                        clear hfy hfn hyn hy n0 n1 n2 n3 n4 hown3 hown hown3'
                        go_wp2_with fail
                        refine (qlen_any hq3).mono ?_
                        rintro e wz ⟨rfl, rfl⟩
                        rw [HQn.out]
                        go_wp2_with fail
                        go_roundw
                        case rel => exact ⟨i + 1, by simp, show Loop .. from ⟨M, Q, by omega, by omega, (by rw [HN.out]; omega), hS5, hall3⟩⟩
                        case measure => simp [intOf]; omega

                      · exact absurd hfn (hno fy (hperm.symm.subset (List.mem_of_getElem? hfy)))
                · have hk2' : (x.k == 2) = false := by simp [hk2]
                  by_cases hk3 : x.k = 3
                  · have hk3' : (x.k == 3) = true := by simp [hk3]
                    clear hk0 hk1 hk2 hk3
                    as_aux_lemma =>
                      go_wp2_with fail
                      clear Hfd n0 n1 n2 n3 n4
                      go_loopw [12, 148] (fun bv jv wv => ∃ (j : Nat) (f2 : Int), bv = .int .i64 f2 ∧ jv = .int .i64 (j : Int) ∧ j ≤ N ∧ Hid (Best M x.at_ j f2) ∧ Only (fun _ => False) wr wv) (fun _ jv _ => N - (intOf jv).toNat)
                      case atStart => exact ⟨0, -1, rfl, rfl, Nat.zero_le _, Best.start _ _, Only.refl _ _⟩
                      case round =>
                        obtain ⟨j2, f2, rfl, rfl, hj2, HB, ho2⟩ := hrel
                        have hsx2 := ho2.blk hsxr id
                        have n4 := cell_of_blk hsx2 4
                        simp only [List.getElem?_toArray, List.getElem?_cons_zero, List.getElem?_cons_succ] at n4
                        have zeb2 := blk_lt hsx2
                        have hown2 := ownsRow_only hown ho2 (fun _ _ h => h)
                        by_cases hjM : (j2 : Int) < (N : Int)
                        · as_aux_lemma =>
                            have hy : M[j2]? = some (fn M j2) := at_fn (by rw [HN.out]; omega)
                            obtain ⟨g, cg, cur, hv, hg, hcap, hmxc, hcs⟩ := row_some (w := wr) (L := M) (by rw [HN.out]; exact hown2) (by rw [HN.out]; omega)
                            rw [HN.out] at hv
                            injection hv with hv1 hv2 hv3
                            subst hv1; subst hv3
                            have hown2' : wr.ownsRow 0 32 4 (.slice (some ⟨g, 0, none⟩) M.length cv) M.length (flat M) := by rw [HN.out]; exact hown2
                            obtain ⟨y0, y1, y2, y3⟩ := row_cells hown2' hy
                            have zg := blk_lt hg
                            generalize fn M j2 = y at *
                            have Hy := Lib.hid hy
                            clear hy
                            have hoC : Only (fun _ => False) wr (wr.alloc (.cells #[.int .i64 y.at_, .int .i64 y.kind, .int .u64 y.num, .int .i64 y.node] 32)) := by
                              repeat' (first | exact Only.refl _ _ | refine Only.drewN ?_ _ | refine Only.drew ?_ | refine Only.alloc ?_ _ | refine Only.setCell ?_ (fun _ => by simp) _ | refine Only.setBlk ?_ (fun _ => by simp) _)
                            have hall2 := ho2.trans' hoC
                            by_cases hle : y.at_ ≤ x.at_
                            · rcases HB.out with ⟨rfl, hb⟩ | ⟨ba, z, rfl, hba, hbz, hbn, hbl⟩
                              · have Hb := Lib.hid hb
                                clear hb hown2 hown2'
                                go_wp2_with fail
                                refine wp_region_segR [1,1,1,1,1,1,1,1,1,1,1,1,1,1,2,2,2] (by kernel_rfl) (by kernel_rfl) ?_
                                refine seg_reads 14 (by decide) (by decide) ?_
                                simp only [List.take_succ_cons, List.take_zero, List.drop_succ_cons, List.drop_zero]
                                iterate 14 (go_big_quiet_step (fail))
                                refine wpQuiet_nil ?_
                                refine seg_list' _ _ _ _ (by kernel_rfl) ?_
                                go_wp2_with fail
                                refine strict_intro ?_
                                go_wp2_with fail
                                go_roundw
                                case rel => exact ⟨j2 + 1, (j2 : Int), rfl, by simp, by omega, Best.first Hb.out Hy.out hle, hall2.drew⟩
                                case measure => simp [intOf]; omega
                              · have hbm := Best.more hbz hba hbn hbl Hy.out hle
                                obtain ⟨z0, z1, z2, z3⟩ := row_cells hown2' hbz
                                have g0 : (0 : Int) ≤ (ba : Int) := by omega
                                have g1 : (ba : Int) < (N : Int) := by omega
                                have gneg : decide ((ba : Int) < 0) = false := by simp
                                have Hbm := Lib.hid hbm
                                have Hbz := Lib.hid hbz
                                clear hbm hbz hbl hown2 hown2'
                                go_wp2_with fail
                                refine wp_region_segR [1,1,1,1,1,1,1,1,1,1,1,1,1,1,2,2,2] (by kernel_rfl) (by kernel_rfl) ?_
                                refine seg_reads 14 (by decide) (by decide) ?_
                                simp only [List.take_succ_cons, List.take_zero, List.drop_succ_cons, List.drop_zero]
                                iterate 14 (go_big_quiet_step (fail))
                                refine wpQuiet_nil ?_
                                refine seg_list' _ _ _ _ (by kernel_rfl) ?_
                                go_wp2_with (go_at_call 10; refine (lessl_any y z _).mono ?_; rintro e w5 ⟨rfl, ho5⟩)
                                refine strict_intro ?_
                                have hall5 := hall2.drew.trans' ho5
                                by_cases hb : y.bef z = true
                                · rw [hb]
                                  go_wp2_with fail
                                  go_roundw
                                  case rel => exact ⟨j2 + 1, (j2 : Int), rfl, by simp, by omega, Hbm.out.1 hb, hall5⟩
                                  case measure => simp [intOf]; omega
                                · have hb' : y.bef z = false := by simpa using hb
                                  rw [hb']
                                  go_wp2_with fail
                                  go_roundw
                                  case rel => exact ⟨j2 + 1, (ba : Int), rfl, by simp, by omega, Hbm.out.2 hb', hall5⟩
                                  case measure => simp [intOf]; omega
                            · have hle' : decide (y.at_ ≤ x.at_) = false := by simpa using hle
                              have hlt : x.at_ < y.at_ := by omega
                              clear hown2 hown2' hle
                              go_wp2_with fail
                              refine wp_region_segR [1,1,1,1,1,1,1,1,1,1,1,1,1,1,2,2,2] (by kernel_rfl) (by kernel_rfl) ?_
                              refine seg_reads 14 (by decide) (by decide) ?_
                              simp only [List.take_succ_cons, List.take_zero, List.drop_succ_cons, List.drop_zero]
                              iterate 14 (go_big_quiet_step (fail))
                              refine wpQuiet_nil ?_
                              refine seg_list' _ _ _ _ (by kernel_rfl) ?_
                              go_wp2_with fail
                              refine strict_intro ?_
                              go_wp2_with fail
                              go_roundw
                              case rel => exact ⟨j2 + 1, f2, rfl, by simp, by omega, Best.skip HB.out Hy.out hlt, hall2.drew⟩
                              case measure => simp [intOf]; omega
                        · have hjM2 : (N : Int) ≤ (j2 : Int) := by omega
                          have hj2eq : j2 = N := by omega
                          have hbd := (show Best M x.at_ M.length f2 by rw [HN.out, ← hj2eq]; exact HB.out).done
                          have Hbd := Lib.hid hbd
                          clear hbd hj2eq hj2 HB
                          have hq2' := hq.only ho2 (fun _ h _ => h)
                          have hallr := hall.trans' ho2
                          go_wp2_with fail
                          refine (next_any hq2' (Nat.le_of_lt hQ60) x.at_).mono ?_
                          rintro e w3' ⟨Q2, hQ2, hq3, ho3⟩
                          have HnmQ := Lib.hid hnmQ
                          clear hnmQ
                          have hsx3p := ho3.blk (ho2.blk hsxr id) (fun h => Nat.lt_irrefl _ h.2)
                          have hk2r : k ≤ wr.heap.size := Nat.le_trans hkr ho2.size
                          obtain ⟨hown3p, F3, hqF3p, hF3k, hF3o⟩ := St.queue (L := M) hk2r hFk hFo (by rw [HN.out]; exact hown2) hob hq3 ho3
                          rw [HN.out] at hown3p
                          have hall3p := Only.newS hallr ho3 (fun c hc => by rw [Hk.out]; exact hFk c hc)
                          have zeb3p := blk_lt hsx3p
                          have hk3rp : k ≤ w3'.heap.size := by omega
                          rcases Hbd.out with ⟨rfl, hno⟩ | ⟨fa, fy, rfl, hfy, hfn, hfl⟩
                          · rcases hQ2 with ⟨y, hp, hyn, _, _⟩ | ⟨_, hQ2, rfl⟩
                            · have := hno y (hperm.subset (hp.symm.subset List.mem_cons_self))
                              omega
                            · subst hQ2
                              have hoE : Only (fun _ => False) w3' (w3'.alloc (.cells #[.int .i64 0, .int .i64 0, .int .u64 0, .int .i64 0] 32)).drew := by
                                repeat' (first | exact Only.refl _ _ | refine Only.drewN ?_ _ | refine Only.drew ?_ | refine Only.alloc ?_ _ | refine Only.setCell ?_ (fun _ => by simp) _ | refine Only.setBlk ?_ (fun _ => by simp) _)
                              have hqF3 := hqF3p.only hoE (fun _ h _ => h)
                              have hS5 : St (w3'.alloc (.cells #[.int .i64 0, .int .i64 0, .int .u64 0, .int .i64 0] 32)).drew k qb (.slice ad N cv) M Q2 := ⟨⟨F3, hqF3, hF3k, hF3o⟩, by rw [HN.out]; exact ownsRow_only hown3p hoE (fun _ _ h => h), hob, hperm⟩
                              have hall3 := hall3p.trans' hoE
                              clear hno n4 hq3 hown3p hqF3p hown hown2
                              go_wp2_with fail
                              refine wp_region_segR [1,1,1,1,1,1,1,1,1,1,1,1,1,1,1,1,1,1,1,1,1,1,1,1] (by kernel_rfl) (by kernel_rfl) ?_
                              refine seg_reads 24 (by decide) (by decide) ?_
                              simp only [List.take_succ_cons, List.take_zero, List.drop_succ_cons, List.drop_zero]
                              iterate 24 (go_big_quiet_step (fail))
                              refine wpQuiet_nil ?_
                              refine seg_nil_then ?_
                              go_wp2_with fail
                              refine (qlen_any hqF3).mono ?_
                              rintro e wz ⟨rfl, rfl⟩
                              rw [HQn.out]
                              go_wp2_with fail
                              go_roundw
                              case rel => exact ⟨i + 1, by simp, show Loop .. from ⟨M, Q2, by omega, by omega, (by rw [HN.out]; omega), hS5, hall3⟩⟩
                              case measure => simp [intOf]; omega
                          · rcases hQ2 with ⟨y, hp, hyn, hyl, rfl⟩ | ⟨hno, _, _⟩
                            · obtain rfl := best_is hperm (hp.symm.subset List.mem_cons_self) hyn hyl (List.mem_of_getElem? hfy) hfn hfl
                              have HP := Lib.hid (out_found hperm HnmQ.out hp hfy rfl)
                              have hoE : Only (fun _ => False) w3' (w3'.alloc (.cells #[.int .i64 y.at_, .int .i64 y.kind, .int .u64 y.num, .int .i64 y.node] 32)) := by
                                repeat' (first | exact Only.refl _ _ | refine Only.drewN ?_ _ | refine Only.drew ?_ | refine Only.alloc ?_ _ | refine Only.setCell ?_ (fun _ => by simp) _ | refine Only.setBlk ?_ (fun _ => by simp) _)
                              have hsy : (w3'.alloc (.cells #[.int .i64 y.at_, .int .i64 y.kind, .int .u64 y.num, .int .i64 y.node] 32)).heap[w3'.heap.size]? = _ := blk_alloc_new
                              have hqF3 := hqF3p.only hoE (fun _ h _ => h)
                              have hown3 := ownsRow_only hown3p hoE (fun _ _ h => h)
                              have hall3 := hall3p.trans' hoE
                              have hk3r := Nat.le_trans hk3rp hoE.size
                              clear hp hyl hfl hyn hfn n4 hq3 hown3p hqF3p hown hown2
                              go_wp2_with fail
                              generalize (w3'.alloc (.cells #[.int .i64 y.at_, .int .i64 y.kind, .int .u64 y.num, .int .i64 y.node] 32)) = w3 at *
                              obtain ⟨g, cg, cur, hv, hg, hcap, hmxc, hcs⟩ := row_some (w := w3) (L := M) (by rw [HN.out]; exact hown3) (by have := (List.getElem?_eq_some_iff.1 hfy).1; omega)
                              rw [HN.out] at hv
                              injection hv with hv1 hv2 hv3
                              subst hv1; subst hv3
                              have hfN : fa < N := by have := (List.getElem?_eq_some_iff.1 hfy).1; rw [HN.out] at this; exact this
                              have hown3' : w3.ownsRow 0 32 4 (.slice (some ⟨g, 0, none⟩) M.length cv) M.length (flat M) := by rw [HN.out]; exact hown3
                              obtain ⟨y0, y1, y2, y3⟩ := row_cells hown3' hfy
                              have zg := blk_lt hg
                              have hgeb : g ≠ eb := Nat.ne_of_lt (hgl g rfl)
                              have g0 : (0 : Int) ≤ (fa : Int) := by omega
                              have g1 : (fa : Int) < (N : Int) := by omega
                              have hcv : N ≤ cv := by rw [← HN.out]; exact hcap
                              have s0 := cell_of_blk hsy 0
                              have s1 := cell_of_blk hsy 1
                              have s2 := cell_of_blk hsy 2
                              have s3 := cell_of_blk hsy 3
                              simp only [List.getElem?_toArray, List.getElem?_cons_zero, List.getElem?_cons_succ] at s0 s1 s2 s3
                              refine wp_region_segR [1,1,1,1,1,1,1,1,1,1,1,1,1,1,1,1,1,1,1,1,1,1,1,1] (by kernel_rfl) (by kernel_rfl) ?_
                              refine seg_reads 24 (by decide) (by decide) ?_
                              simp only [List.take_succ_cons, List.take_zero, List.drop_succ_cons, List.drop_zero]
                              iterate 24 (go_big_quiet_step (fail))
                              refine wpQuiet_nil ?_
                              refine seg_nil_then ?_
                              have hoD : Only (fun _ => False) w3 w3.drew := (Only.refl _ _).drew
                              have hqF3 := hqF3.only hoD (fun _ h _ => h)
                              have hown3 := ownsRow_only hown3 hoD (fun _ _ h => h)
                              have hown3' := ownsRow_only hown3' hoD (fun _ _ h => h)
                              have hall3 := hall3.trans' hoD
                              have hk3r := Nat.le_trans hk3r hoD.size
                              clear s0 s1 s2 s3 y0 y1 y2 y3
                              generalize w3.drew = w3 at *
                              as_aux_lemma =>
                                obtain ⟨i0, hinf, hz0, hz1, hz2⟩ := info_parts info32
                                have Hinf := Lib.hid hinf
                                have Hz0 := Lib.hid hz0
                                have Hz1 := Lib.hid hz1
                                have Hz2 := Lib.hid hz2
                                have Hfy := Lib.hid hfy
                                have Hown := Lib.hid hown3'
                                clear hinf hz0 hz1 hz2 hfy hown3' hown3
                                obtain ⟨fb, hfb⟩ : ∃ fb : Nat, fb = fa + 1 := ⟨_, rfl⟩
                                have hfi : (fa : Int) + 1 = (fb : Int) := by omega
                                have g2 : (fa : Int) ≤ (cv : Int) := by omega
                                have g3 : (fb : Int) ≤ (N : Int) := by omega
                                have g4 : fb ≤ N := by omega
                                have g5 : (N : Int) ≤ (cv : Int) := by omega
                                have Hfb := Lib.hid hfb
                                clear hfb
                                go_wp2_with fail
                                refine wp_region_segL [2,0,0,0,2,0,0,0,0,2,2] (fun _ => False) (by kernel_rfl) (by kernel_rfl) ?_
                                refine seg_eff rfl ?_
                                go_wp2_with fail
                                refine strict_intro ⟨⟨⟨_, (Only.refl _ _).drew.alloc _⟩, rfl⟩, ?_⟩
                                refine seg_free rfl ?_
                                go_big_quiet_step (fail)
                                refine wpQuiet_nil ?_
                                refine seg_free rfl ?_
                                go_big_quiet_step (fail)
                                refine wpQuiet_nil ?_
                                refine seg_free rfl ?_
                                go_big_quiet_step (fail)
                                refine wpQuiet_nil ?_
                                refine seg_eff rfl ?_
                                have hoA : Only (fun _ => False) w3 (w3.drew.alloc (.cells #[] 32)) := (Only.refl _ _).drew.alloc _
                                have hownA : (w3.drew.alloc (.cells #[] 32)).ownsRow 0 32 4 (.slice (some ⟨w3.heap.size, 0, none⟩) 0 0) 0 (flat []) := ⟨rfl, .inr ⟨_, _, #[], rfl, Nat.zero_le _, blk_alloc_new (w := w3.drew), Nat.le_refl _, Nat.zero_le _, rfl, rfl⟩⟩
                                have hgA := ownsRow_only Hown.out hoA (fun _ _ h => h)
                                have hlt1 : (flat (M.take fa)).length = fa * 4 := by rw [flat_length, List.length_take, HN.out]; omega
                                have hlt2 : (flat (M.drop fb)).length = (N - fb) * 4 := by rw [flat_length, List.length_drop, HN.out]
                                refine wpList_append_own_at _ rfl _ _ 22 rfl 0 32 i0 (.agg #[.int .i64 0, .int .i64 0, .int .u64 0, .int .i64 0]) 4 32 und22 Hinf.out Hz0.out Hz1.out Hz2.out rfl (by decide) (.slice (some ⟨w3.heap.size, 0, none⟩) 0 0) 0 (flat []) rfl hownA ⟨g, 0, none⟩ fa cv (flat (M.take fa)) rfl hlt1 ?c1 (one_cells _) (by unfold maxLen; omega) (by omega) (Nat.zero_le _) ?_
                                case c1 =>
                                  have := part_cells hgA 0 (M.take fa) (fun i e he => by rw [Nat.zero_add]; rw [List.getElem?_take] at he; split at he; exact he; cases he)
                                  rw [Nat.zero_mul] at this
                                  exact this
                                intro v4 w4 hown4 hgrow4 _ hloc4
                                have ho4 : Only (fun _ => False) w3 w4 := Only.newS hoA (Only.of_grown hgrow4) (fun c hc => by simp [Value.ownBlock] at hc; omega)
                                refine wpList_nil (strict_intro ⟨⟨⟨w4, ho4⟩, rfl⟩, ?_⟩)
                                go_frame
                                refine seg_free rfl ?_
                                go_big_quiet_step (fail)
                                refine wpQuiet_nil ?_
                                refine seg_free rfl ?_
                                go_big_quiet_step (fail)
                                refine wpQuiet_nil ?_
                                refine seg_free rfl ?_
                                go_big_quiet_step (fail)
                                refine wpQuiet_nil ?_
                                refine seg_free rfl ?_
                                go_big_quiet_step (fail)
                                refine wpQuiet_nil ?_
                                refine seg_list' _ _ _ _ (by kernel_rfl) ?_
                                have hgA := ownsRow_only Hown.out ho4 (fun _ _ h => h)
                                have hnb : ∀ c, v4.ownBlock = some c → w3.heap.size ≤ c := fun c hc => by
                                  rcases hloc4 with h | h
                                  · rw [h] at hc; simp [Value.ownBlock] at hc; omega
                                  · rw [h] at hc; simp at hc; omega
                                have hfs : Hid (flat (M.take fa) ++ flat (M.drop fb) = flat (M.eraseIdx fa)) := by
                                  show _ = _
                                  rw [← flat_append, eraseIdx_split, Hfb.out]
                                have h4len : w3.heap.size ≤ w4.heap.size := ho4.size
                                refine wpList_append_own_at _ rfl _ _ 22 rfl 0 32 i0 (.agg #[.int .i64 0, .int .i64 0, .int .u64 0, .int .i64 0]) 4 32 und22 Hinf.out Hz0.out Hz1.out Hz2.out rfl (by decide) v4 (0 + fa) (flat [] ++ flat (M.take fa)) rfl hown4 (if cv = fb then ⟨g, 0, none⟩ else ⟨g, fb * 4, none⟩) (N - fb) (cv - fb) (flat (M.drop fb)) (by change Value.slice (if cv = fb then some ⟨g, 0, none⟩ else some ⟨g, fb * 4, none⟩) (N - fb) (cv - fb) = _; split <;> rfl) hlt2 ?c2 (one_cells _) (by unfold maxLen; omega) (by omega) (Nat.zero_le _) ?_
                                case c2 =>
                                  intro j u hj
                                  have hjl := (List.getElem?_eq_some_iff.1 hj).1
                                  rw [hlt2] at hjl
                                  rw [if_neg (by omega)]
                                  exact part_cells hgA fb (M.drop fb) (fun i e he => by rw [List.getElem?_drop] at he; exact he) j u hj
                                intro v5 w5 hown5 hgrow5 _ hloc5
                                have e5 : 0 + fa + (N - fb) = N - 1 := by have := Hfb.out; omega
                                rw [e5, show flat [] ++ flat (M.take fa) ++ flat (M.drop fb) = flat (M.eraseIdx fa) from hfs.out] at hown5
                                have ho5 : Only (fun _ => False) w3 w5 := Only.newS ho4 (Only.of_grown hgrow5) (fun c hc => hnb c hc.symm)
                                have hlen5 : (M.eraseIdx fa).length = N - 1 := by rw [List.length_eraseIdx, HN.out, if_pos hfN]
                                have hS5 : St w5 k qb v5 (M.eraseIdx fa) Q2 := St.list (v := .slice (some ⟨g, 0, none⟩) N cv) hk3r ⟨F3, hqF3, hF3k, hF3o⟩ hob ho5 (fun c hc => hc.elim) (fun c hc => .inr (by
                                  rcases hloc5 with h | h
                                  · exact hnb c (by rw [← h]; exact hc)
                                  · rw [h] at hc; injection hc with hc; omega)) (by rw [hlen5]; exact hown5) HP.out
                                have hall5 := hall3.trans' ho5
                                obtain ⟨ad5, cap5, rfl⟩ := row_slice hown5
                                have Hl5 := Lib.hid (HP.out.length_eq.trans hlen5)
                                obtain ⟨F5, hq5, hf5a, hf5b⟩ := hS5.ex
                                clear hown5 hgrow5 hloc5 hnb hown4 hgrow4 hloc4 hgA hownA hfs hlt1 hlt2 hfi
                                generalize (if cv = fb then (some ⟨g, 0, none⟩ : Option Addr) else some ⟨g, fb * 4, none⟩) = adx
                                go_wp2_with fail
                                refine strict_intro ?_
                                go_wp2_with fail
                                refine (qlen_any hq5).mono ?_
                                rintro e wz ⟨rfl, rfl⟩
                                rw [Hl5.out]
                                go_wp2_with fail
                                go_roundw
                                case rel => exact ⟨i + 1, by simp, show Loop .. from ⟨M.eraseIdx fa, Q2, by omega, by omega, (by rw [hlen5]; omega), hS5, hall5⟩⟩
                                case measure => simp [intOf]; omega
                            · exact absurd hfn (by have := hno fy (hperm.symm.subset (List.mem_of_getElem? hfy)); omega)
                  · have hk3' : (x.k == 3) = false := by simp [hk3]
                    clear hk0 hk1 hk2 hk3
                    as_aux_lemma =>
                      have hS5 : St wr k qb (.slice ad N cv) M Q := ⟨⟨_, hq, hFk, hFo⟩, by rw [HN.out]; exact hown, hob, hperm⟩
                      go_wp2_with fail
                      refine (qlen_any hq).mono ?_
                      rintro e wz ⟨rfl, rfl⟩
                      rw [HQn.out]
                      go_wp2_with fail
                      go_roundw
                      case rel => exact ⟨i + 1, by simp, show Loop .. from ⟨M, Q, by omega, by omega, (by have := HN.out; omega), hS5, hall⟩⟩
                      case measure => simp [intOf]; omega
      · have hin' : decide ((i : Int) < (n : Int)) = true := by simp; omega
        have hi60' : decide ((i : Int) < 60) = false := by simp; omega
        obtain ⟨M, Q, _, _, _, _, ho⟩ := HL.out
        go_wp2_with fail
        go_ret
        exact ⟨rfl, Hk.out ▸ ho.below⟩
    · have hin' : decide ((i : Int) < (n : Int)) = false := by simp; omega
      obtain ⟨M, Q, _, _, _, _, ho⟩ := HL.out
      go_wp2_with fail
      go_ret
      exact ⟨rfl, Hk.out ▸ ho.below⟩
end Go.Proofs.Ytgabgdeakeliaaa
