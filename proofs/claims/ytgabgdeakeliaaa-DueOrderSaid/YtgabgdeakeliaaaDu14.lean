/- due: the walk of DueOrder. -/
import Derived.Test.YtgabgdeakeliaaaDu13
import Derived.DataShut
namespace Go.Proofs.Ytgabgdeakeliaaa
open Go.RowKit Go.Dm
set_option linter.unusedVariables false
set_option linter.unusedSimpArgs false

@[go_sem] theorem ent_val_eq (e : Ent) : e.val = .agg #[.int .i64 e.at_, .int .i64 e.kind, .int .u64 e.num, .int .i64 e.node] := rfl
@[go_sem] theorem e0_at : e0.at_ = 0 := rfl
@[go_sem] theorem e0_kind : e0.kind = 0 := rfl
@[go_sem] theorem e0_num : e0.num = 0 := rfl
@[go_sem] theorem e0_node : e0.node = 0 := rfl
theorem ent_enc_eq (e : Ent) : entE.enc e = .agg #[.int .i64 e.at_, .int .i64 e.kind, .int .u64 e.num, .int .i64 e.node] := rfl

set_option maxHeartbeats 8000000 in
set_option maxRecDepth 100000 in
theorem dueOrder_walk {w : World} {a : Option Addr} {n cap : Nat} {L : List Ent} (h : ArgRow w 4 Ent.cells a n L) (hwf : ∀ x ∈ L, x.Wf) :
    Calls Try.prog 3 #[.slice a n cap] w fun e w' => e = .returned (.bool true) ∧ Below w.heap.size w w' := by
  generalize hk : w.heap.size = k
  have Hk := Lib.hid hk
  have Ha := Lib.hid h
  have hln := Lib.hid h.len
  have Hwf := Lib.hid hwf
  clear hk hwf
  by_cases hn : (60 : Int) < (n : Int)
  · clear h
    go_enter Try.func3, Try.ntmps3
    go_wp2_with fail
    refine (head_any _).mono ?_
    rintro e w1 ⟨rfl, ho1⟩
    go_wp2
    go_ret
    exact ⟨rfl, Hk.out ▸ ho1.below⟩
  · clear h
    have hmm := @run_makeMap Try.prog
    go_enter Try.func3, Try.ntmps3
    go_wp2_with fail
    refine (head_any _).mono ?_
    rintro e w1 ⟨rfl, ho1⟩
    go_wp2_with fail
    refine (new_any _).mono ?_
    rintro e w2 ⟨qb, rfl, hq2, ho2⟩
    have hz1 := ho1.size
    rw [Hk.out] at hz1
    have hq2 := (hq2.mono (F' := fun c => k ≤ c) (fun c hc => Nat.le_trans hz1 hc)).bound
    have hz2 := ho2.size
    have ho12 := ho1.trans' ho2
    clear ho1 ho2
    go_wp2_with fail
    have hoM : Only (fun _ => False) w2 (w2.alloc (.map #[] 0)) := by
      repeat' (first | exact Only.refl _ _ | refine Only.drewN ?_ _ | refine Only.drew ?_ | refine Only.alloc ?_ _ | refine Only.setCell ?_ (fun _ => by simp) _ | refine Only.setBlk ?_ (fun _ => by simp) _)
    have hM : MapIs entE (w2.alloc (.map #[] 0)) w2.heap.size (tm []) := ⟨#[], 0, blk_alloc_new, by simp [tm], by simp, by simp, by simp [akeys, tm], by simp [akeys, tm]⟩
    obtain ⟨mb, hmb⟩ : ∃ mb, mb = w2.heap.size := ⟨_, rfl⟩
    rw [← hmb] at hM
    have hqM := (hq2.only hoM (fun _ h _ => h)).mono (F' := fun c => k ≤ c ∧ c ≠ mb) (fun c hc => ⟨hc.1, by omega⟩)
    have hkm : k ≤ mb := by omega
    have ho := ho12.trans' hoM
    clear hq2 ho12 hoM
    rw [← hmb]
    clear hmb
    go_loopw [21] (fun kv wr => ∃ (i : Nat) (K Q : List Ent), kv = .int .i64 (i : Int) ∧ i ≤ n ∧ Hid (K.length ≤ i) ∧ Hid (∀ x ∈ K, x ∈ L) ∧ MapIs entE wr mb (tm K) ∧ QIs wr qb (fun c => k ≤ c ∧ c ≠ mb) Q ∧ Hid (Q.Perm K) ∧ Only (fun _ => False) w wr) (fun kv _ => n - (intOf kv).toNat)
    case atStart => exact ⟨0, [], [], rfl, Nat.zero_le _, (show Hid _ from Nat.zero_le _), (show Hid _ from (fun x hx => by cases hx)), hM, hqM, (show Hid _ from List.Perm.refl _), ho⟩
    case round =>
      obtain ⟨i, K, Q, rfl, hi, HK, HKL, hM, hq, HQ, ho⟩ := hrel
      by_cases hin : (i : Int) < (n : Int)
      · have hx : L[i]? = some (fn L i) := at_fn (by rw [hln.out]; omega)
        have hmem : fn L i ∈ L := List.mem_of_getElem? hx
        obtain ⟨b, o, ha, hbk, c0, c1, c2, c3⟩ := Ha.out.at ho.below hx
        subst ha
        have hkr : b < wr.heap.size := Nat.lt_of_lt_of_le hbk ho.size
        have hkw := ho.size
        rw [Hk.out] at hkw
        generalize fn L i = x at *
        have Hmem := Lib.hid hmem
        clear hx hmem
        have hoA : Only (fun _ => False) wr (wr.alloc (.cells #[.int .i64 x.at_, .int .i64 x.kind, .int .u64 x.num, .int .i64 x.node] 32)) := by
          repeat' (first | exact Only.refl _ _ | refine Only.drewN ?_ _ | refine Only.drew ?_ | refine Only.alloc ?_ _ | refine Only.setCell ?_ (fun _ => by simp) _ | refine Only.setBlk ?_ (fun _ => by simp) _)
        have hsx : (wr.alloc (.cells #[.int .i64 x.at_, .int .i64 x.kind, .int .u64 x.num, .int .i64 x.node] 32)).heap[wr.heap.size]? = _ := blk_alloc_new
        have hM1 := hM.only hoA id
        have hmw : mb < wr.heap.size := hM.lt
        go_wp2_with (at_range; refine wpl_range rfl 26 _ rfl entE 4 und26 mb (tm K) hM1 rfl ?_)
        intro ob hrg
        have hoB := hoA.alloc ob
        have hq1 := (hq.bound.only hoB (fun _ h _ => h)).mono (F' := fun c => (k ≤ c ∧ c ≠ mb) ∧ c < wr.heap.size) (fun c hc => hc)
        have hsx := blk_alloc_old (o' := ob) hsx
        have ho1 := ho.trans' hoB
        obtain ⟨eb, heb⟩ : ∃ eb, eb = wr.heap.size := ⟨_, rfl⟩
        rw [← heb] at hsx hq1 hmw hkw
        rw [← heb] at hrg
        rw [← heb]
        have hws : eb + 2 ≤ ((wr.alloc (.cells #[.int .i64 x.at_, .int .i64 x.kind, .int .u64 x.num, .int .i64 x.node] 32)).alloc ob).heap.size := by simp [heb]
        generalize (wr.alloc (.cells #[.int .i64 x.at_, .int .i64 x.kind, .int .u64 x.num, .int .i64 x.node] 32)).alloc ob = wi at *
        clear hM hq c0 c1 c2 c3 hM1 hoA hoB ho heb hkr
        go_wp2_with fail
        go_loopw [7] (fun _ wv => ∃ (K1 left : List Ent), Ranges entE wv mb (eb + 1) (tm K1) left ∧ Hid (K1 = K.filter fun y => decide (y.nm ≠ x.nm ∨ y ∈ left)) ∧ QIs wv qb (fun c => (k ≤ c ∧ c ≠ mb) ∧ c < eb) Q ∧ Only (fun _ => False) w wv ∧ wv.heap[eb]? = some (.cells #[.int .i64 x.at_, .int .i64 x.kind, .int .u64 x.num, .int .i64 x.node] 32 (0, 0))) (fun _ wv => wv.rangeLeft mb (eb + 1))
        case atStart =>
          refine ⟨K, _, hrg, ?_, hq1, ho1, hsx⟩
          rw [akeys_tm]
          exact (keep_start K x).symm
        case round =>
          obtain ⟨K1, left, hrg, HK1, hq, ho, hsx⟩ := hrel
          have ebl : eb < wr.heap.size := blk_lt hsx
          have rbl : eb + 1 < wr.heap.size := hrg.lt
          go_wp2_with (at_next; refine wpl_next rfl _ rfl entE mb (eb + 1) (tm K1) left hrg rfl ?_ ?_)
          · intro hleft
            subst hleft
            rw [keep_end] at HK1
            have n0 := cell_of_blk hsx 0
            have n1 := cell_of_blk hsx 1
            have n2 := cell_of_blk hsx 2
            have n3 := cell_of_blk hsx 3
            have hmw' : mb ≠ eb := Nat.ne_of_lt hmw
            simp only [List.getElem?_toArray, List.getElem?_cons_zero, List.getElem?_cons_succ] at n0 n1 n2 n3
            go_wp2_with (refine wpl_mapUpdate rfl rfl 26 _ _ _ rfl entE 4 und26 mb (tm K1) hrg.map rfl x rfl trivial (.bool true) rfl ?_)
            intro ob hM2
            have hoU : Only (fun c => c = mb) wr (setBlk wr mb ob) := by
              repeat' (first | exact Only.refl _ _ | refine Only.drewN ?_ _ | refine Only.drew ?_ | refine Only.alloc ?_ _ | refine Only.setCell ?_ (fun _ => by simp) _ | refine Only.setBlk ?_ (fun _ => by simp) _)
            have hxK : x ∉ K1 := fun h => by
              rw [HK1] at h
              have := (List.mem_filter.1 h).2
              simp at this
            rw [aput_tm hxK] at hM2
            have hq2 := (hq.only hoU (fun c h1 h2 => h2.1.2 h1))
            have hsx2 := hoU.blk hsx (Ne.symm hmw')
            have ho2 := Only.newS ho hoU (fun c hc => by rw [hc, Hk.out]; exact hkm)
            have hzU := hoU.size
            generalize setBlk wr mb ob = w2 at *
            have n0 := cell_of_blk hsx2 0
            have n1 := cell_of_blk hsx2 1
            have n2 := cell_of_blk hsx2 2
            have n3 := cell_of_blk hsx2 3
            simp only [List.getElem?_toArray, List.getElem?_cons_zero, List.getElem?_cons_succ] at n0 n1 n2 n3
            have hKlen : Hid (K1.length ≤ i) := by
              have h1 := HK.out
              have h2 : K1.length ≤ K.length := by rw [HK1]; exact List.length_filter_le _ _
              exact (show K1.length ≤ i by omega)
            have hQlen : Q.length ≤ i := by have h1 := HQ.out.length_eq; have h2 := HK.out; omega
            have hln := Lib.hid hM2.lt
            have hnm := hq.names
            go_wp2_with fail
            refine (set_any hq2 (by omega) x.nm x.at_).mono ?_
            rintro e w3 ⟨rfl, Q2, hQ2, hq3, ho3⟩
            have hq3 := hq3.mono (F' := fun c => k ≤ c ∧ c ≠ mb) (fun c hc => hc.elim (fun h => h.1) fun h => ⟨by have := hln.out; omega, by have := hln.out; omega⟩)
            have hp := set_keys HQ.out hnm hQ2
            have hM3 := hM2.only ho3 (fun h => h.1.2 rfl)
            have hall := Only.newS ho2 ho3 (fun c hc => by rw [Hk.out]; exact hc.1.1)
            go_wp2
            go_roundw
            case rel =>
              refine ⟨i + 1, K1 ++ [x], Q2, by simp, by omega, ?_, ?_, hM3, hq3, ?_, hall⟩
              · have := hKlen.out; exact (show _ ≤ _ by simp; omega)
              · refine (show ∀ y ∈ K1 ++ [x], y ∈ L from fun y hy => ?_)
                rcases List.mem_append.1 hy with hy | hy
                · rw [HK1] at hy
                  exact HKL.out y (List.mem_filter.1 hy).1
                · rw [List.mem_singleton] at hy
                  rw [hy]; exact Hmem.out
              · rw [HK1]; exact hp
            case measure => simp [intOf]; omega
          · intro y v w2 hy hg hrg2 ho2 hz2 hlt hen
            obtain ⟨rfl, hyK⟩ := aget_tm hg
            rw [ent_enc_eq] at hen
            have HyK := Lib.hid hyK
            have Hy := Lib.hid hy
            clear hg hyK hy
            have hsx2 := ho2.blk hsx (by omega)
            have n0 := cell_of_blk hsx2 0
            have n1 := cell_of_blk hsx2 1
            have n2 := cell_of_blk hsx2 2
            have n3 := cell_of_blk hsx2 3
            simp only [List.getElem?_toArray, List.getElem?_cons_zero, List.getElem?_cons_succ] at n0 n1 n2 n3
            have ebl2 : eb < w2.heap.size := blk_lt hsx2
            clear hz2
            rw [ent_enc_eq]
            have hoC : Only (fun _ => False) w2 (w2.alloc (.cells #[.int .i64 y.at_, .int .i64 y.kind, .int .u64 y.num, .int .i64 y.node] 32)) := by
              repeat' (first | exact Only.refl _ _ | refine Only.drewN ?_ _ | refine Only.drew ?_ | refine Only.alloc ?_ _ | refine Only.setCell ?_ (fun _ => by simp) _ | refine Only.setBlk ?_ (fun _ => by simp) _)
            have ho3 := (Only.newS ho ho2 (fun c hc => by rw [hc, Hk.out]; omega)).trans' hoC
            have hq3 := (hq.only ho2 (fun c h1 h2 => by have := h2.2; omega)).only hoC (fun c h _ => h)
            obtain ⟨hrg3, hrl3⟩ := hrg2.only hoC id id
            have hsx3 := hoC.blk hsx2 id
            have hlt3 : (w2.alloc (.cells #[.int .i64 y.at_, .int .i64 y.kind, .int .u64 y.num, .int .i64 y.node] 32)).rangeLeft mb (eb + 1) < wr.rangeLeft mb (eb + 1) := by rw [hrl3]; exact hlt
            clear hq ho ho2 hoC hrg2 hrg hsx hrl3 hlt
            have Hlt := Lib.hid hlt3
            clear hlt3
            have hfl : ((left.filter fun c => !decide (c = y)).filter fun c => !decide (c = y)) = left.filter fun c => !decide (c = y) := by
              rw [List.filter_filter]; exact List.filter_congr fun z _ => by simp
            generalize hg2 : (left.filter fun c => !decide (c = y)) = left2 at hrg3 hfl
            have HG := Lib.hid hg2
            have HF := Lib.hid hfl
            clear hg2 hfl
            by_cases hkd : y.kind = x.kind
            · have hkd' : (y.kind == x.kind) = true := by simp [hkd]
              by_cases h1 : y.num = x.num
              · have h1' : (y.num == x.num) = true := by simp [h1]
                by_cases h2 : y.node = x.node
                · have h2' : (y.node == x.node) = true := by simp [h2]
                  have hnm : y.nm = x.nm := by unfold Ent.nm; rw [hkd, h1, h2]
                  have Hnm := Lib.hid hnm
                  clear hkd h1 h2 hnm
                  go_wp2_with (refine wpl_delete_in rfl rfl 26 32 _ _ rfl entE 4 und26 mb (eb + 1) (tm K1) left2 hrg3 rfl y rfl trivial ?_)
                  intro ob hrg4 hrl4
                  rw [adel_tm] at hrg4
                  have hoD : Only (fun c => c = mb) (w2.alloc (.cells #[.int .i64 y.at_, .int .i64 y.kind, .int .u64 y.num, .int .i64 y.node] 32)) (setBlk (w2.alloc (.cells #[.int .i64 y.at_, .int .i64 y.kind, .int .u64 y.num, .int .i64 y.node] 32)) mb ob) := by
                    repeat' (first | exact Only.refl _ _ | refine Only.drewN ?_ _ | refine Only.drew ?_ | refine Only.alloc ?_ _ | refine Only.setCell ?_ (fun _ => by simp) _ | refine Only.setBlk ?_ (fun _ => by simp) _)
                  rw [HF.out] at hrg4
                  go_wp2
                  go_roundw
                  case rel =>
                    refine ⟨_, _, hrg4, ?_, hq3.only hoD (fun c h1 h2 => h2.1.2 h1), Only.newS ho3 hoD (fun c hc => by rw [hc, Hk.out]; exact hkm), hoD.blk hsx3 (fun h => Nat.ne_of_lt hmw h.symm)⟩
                    refine (show _ = _ from ?_)
                    rw [HK1, ← HG.out]
                    exact keep_drop Hnm.out
                  case measure => exact Nat.lt_of_le_of_lt hrl4 Hlt.out
                · have h2' : (y.node == x.node) = false := by simp [h2]
                  have hnm : y.nm ≠ x.nm := fun h => h2 (by unfold Ent.nm at h; injection h)
                  clear hkd h1 h2
                  go_wp2_with fail
                  go_roundw
                  case rel =>
                    refine ⟨K1, _, hrg3, ?_, hq3, ho3, hsx3⟩
                    refine (show _ = _ from ?_)
                    rw [HK1, ← HG.out]
                    exact keep_skip hnm
                  case measure => exact Hlt.out
              · have h1' : (y.num == x.num) = false := by simp [h1]
                have hnm : y.nm ≠ x.nm := fun h => h1 (by unfold Ent.nm at h; injection h)
                clear hkd h1
                go_wp2_with fail
                go_roundw
                case rel =>
                  refine ⟨K1, _, hrg3, ?_, hq3, ho3, hsx3⟩
                  refine (show _ = _ from ?_)
                  rw [HK1, ← HG.out]
                  exact keep_skip hnm
                case measure => exact Hlt.out
            · have hnm : y.nm ≠ x.nm := fun h => hkd (by unfold Ent.nm at h; injection h)
              have hkd' : (y.kind == x.kind) = false := by simp [hkd]
              clear hkd
              go_wp2_with fail
              go_roundw
              case rel =>
                refine ⟨K1, _, hrg3, ?_, hq3, ho3, hsx3⟩
                refine (show _ = _ from ?_)
                rw [HK1, ← HG.out]
                exact keep_skip hnm
              case measure => exact Hlt.out
      · have hin2 : (n : Int) ≤ (i : Int) := by omega
        have hkw := ho.size
        rw [Hk.out] at hkw
        have hmw := hM.lt
        have hKn : Hid (K.length ≤ n) := by have := HK.out; exact (show K.length ≤ n by omega)
        obtain ⟨pb, hpb⟩ : ∃ pb, pb = wr.heap.size := ⟨_, rfl⟩
        have hoZ : Only (fun _ => False) wr (wr.alloc (.cells #[.int .i64 0, .int .i64 0, .int .u64 0, .int .i64 0] 32)) := by
          repeat' (first | exact Only.refl _ _ | refine Only.drewN ?_ _ | refine Only.drew ?_ | refine Only.alloc ?_ _ | refine Only.setCell ?_ (fun _ => by simp) _ | refine Only.setBlk ?_ (fun _ => by simp) _)
        have hsp : (wr.alloc (.cells #[.int .i64 0, .int .i64 0, .int .u64 0, .int .i64 0] 32)).heap[wr.heap.size]? = _ := blk_alloc_new
        have hq1 := (hq.bound.only hoZ (fun _ h _ => h)).mono (F' := fun c => (k ≤ c ∧ c ≠ mb) ∧ c ≠ pb) (fun c hc => ⟨hc.1, by have := hc.2; omega⟩)
        have hM1 := hM.only hoZ id
        have ho1 := ho.trans' hoZ
        rw [← hpb] at hsp hmw hkw
        go_wp2_with fail
        rw [← hpb]
        generalize (wr.alloc (.cells #[.int .i64 0, .int .i64 0, .int .u64 0, .int .i64 0] 32)) = wi at *
        clear hM hq ho hoZ hpb
        go_loopw [8] (fun kv wr => ∃ (c : Nat) (p : Ent) (Q : List Ent), kv = .int .i64 (c : Int) ∧ Hid (c + Q.length = K.length) ∧ Hid (∀ y ∈ Q, y ∈ K) ∧ Hid (0 < c → ∀ y ∈ Q, p.bef y = true) ∧ MapIs entE wr mb (tm K) ∧ QIs wr qb (fun c => (k ≤ c ∧ c ≠ mb) ∧ c ≠ pb) Q ∧ wr.heap[pb]? = some (.cells #[.int .i64 p.at_, .int .i64 p.kind, .int .u64 p.num, .int .i64 p.node] 32 (0, 0)) ∧ Only (fun _ => False) w wr) (fun kv _ => n - (intOf kv).toNat)
        case atStart => exact ⟨0, e0, Q, rfl, (show _ = _ by have := HQ.out.length_eq; omega), (show ∀ y ∈ Q, y ∈ K from fun y hy => HQ.out.subset hy), (show 0 < 0 → _ from fun h => absurd h (Nat.lt_irrefl _)), hM1, hq1, hsp, ho1⟩
        case round =>
          obtain ⟨c, p, Q, rfl, HC, HS, HB, hM, hq, hsp, ho⟩ := hrel
          clear hM1 hq1 ho1
          have hkw1 := ho.size
          rw [Hk.out] at hkw1
          have hmw1 := hM.lt
          have hpw1 := blk_lt hsp
          have hnm := hq.names
          have Hnm := Lib.hid hnm
          clear hnm
          go_wp2_with fail
          refine (next_any hq (by have h1 := HC.out; have h2 := hKn.out; omega) 9223372036854775807).mono ?_
          rintro e w3 ⟨Q2, hQ2, hq3, ho3⟩
          have hq3 := hq3.mono (F' := fun c => (k ≤ c ∧ c ≠ mb) ∧ c ≠ pb) (fun c hc => hc.elim id fun h => ⟨⟨by omega, by omega⟩, by omega⟩)
          have hM3 := hM.only ho3 (fun h => h.1.2 rfl)
          have hsp3 := ho3.blk hsp (fun h => h.2 rfl)
          have hall := Only.newS ho ho3 (fun c hc => by rw [Hk.out]; exact hc.1.1)
          rcases hQ2 with ⟨x, hp, hx, hl, rfl⟩ | ⟨hl, hQ2, rfl⟩
          · have hxQ : x ∈ Q := hp.symm.subset List.mem_cons_self
            have hxK := HS.out x hxQ
            have hlq := hp.length_eq
            have HB2 := Lib.hid (next_ahead Hnm.out hp hl)
            have HS2 := Lib.hid (show ∀ y ∈ Q2, y ∈ K from fun y hy => HS.out y (hp.symm.subset (List.mem_cons_of_mem _ hy)))
            have HC2 := Lib.hid (show c + 1 + Q2.length = K.length by have := HC.out; simp at hlq; omega)
            have hcn : c + 1 ≤ n := by have h1 := HC2.out; have h2 := hKn.out; omega
            have hpb : Hid (0 < c → p.bef x = true) := fun h => HB.out h x hxQ
            have hoE : Only (fun _ => False) w3 (w3.alloc (.cells #[.int .i64 x.at_, .int .i64 x.kind, .int .u64 x.num, .int .i64 x.node] 32)) := by
              repeat' (first | exact Only.refl _ _ | refine Only.drewN ?_ _ | refine Only.drew ?_ | refine Only.alloc ?_ _ | refine Only.setCell ?_ (fun _ => by simp) _ | refine Only.setBlk ?_ (fun _ => by simp) _)
            have hlk := (hM3.only hoE id).lookup und26 (zero4 _) x trivial false
            rw [show aget (tm K) x = some (.bool true) from aget_of_tm hxK, ent_enc_eq] at hlk
            simp only [Option.getD_some, Bool.false_eq_true, if_false] at hlk
            have hq4 := hq3.only hoE (fun _ h _ => h)
            have hM4 := hM3.only hoE id
            have hsp4 := hoE.blk hsp3 id
            have hall3 := hall
            have hall := hall.trans' hoE
            have n0 := cell_of_blk hsp4 0
            have n1 := cell_of_blk hsp4 1
            have n2 := cell_of_blk hsp4 2
            have n3 := cell_of_blk hsp4 3
            simp only [List.getElem?_toArray, List.getElem?_cons_zero, List.getElem?_cons_succ] at n0 n1 n2 n3
            clear hp hl hx hlq hxQ hxK hq hM hsp ho hoE
            have hcn' : ¬ (n : Int) < (c : Int) + 1 := by omega
            by_cases hc0 : (0 : Int) < (c : Int)
            · go_wp2_with fail
              refine (lessl_any p x _).mono ?_
              rintro e w5 ⟨rfl, ho5⟩
              rw [hpb.out (by omega)]
              have hq5 := hq4.only ho5 (fun _ h _ => h)
              have hM5 := hM4.only ho5 id
              have hsp5 := ho5.blk hsp4 id
              have hall5 := hall.trans' ho5
              clear n0 n1 n2 n3
              have hx5 : w5.heap[w3.heap.size]? = some (.cells #[.int .i64 x.at_, .int .i64 x.kind, .int .u64 x.num, .int .i64 x.node] 32 (0, 0)) := ho5.blk blk_alloc_new id
              have m0 := cell_of_blk hx5 0
              have m1 := cell_of_blk hx5 1
              have m2 := cell_of_blk hx5 2
              have m3 := cell_of_blk hx5 3
              have n0 := cell_of_blk hsp5 0
              have n1 := cell_of_blk hsp5 1
              have n2 := cell_of_blk hsp5 2
              have n3 := cell_of_blk hsp5 3
              have j0 := free_of_blk hsp5 0
              have j1 := free_of_blk hsp5 1
              have j2 := free_of_blk hsp5 2
              have j3 := free_of_blk hsp5 3
              have z5 := blk_lt hsp5
              simp only [List.getElem?_toArray, List.getElem?_cons_zero, List.getElem?_cons_succ] at n0 n1 n2 n3 m0 m1 m2 m3
              go_wp2_with fail
              go_roundw
              case rel =>
                have hoS : Only (fun c => c = pb) w5 (((((w5).setCell ⟨pb, 0, none⟩ (.int .i64 x.at_)).setCell ⟨pb, 1, none⟩ (.int .i64 x.kind)).setCell ⟨pb, 2, none⟩ (.int .u64 x.num)).setCell ⟨pb, 3, none⟩ (.int .i64 x.node)) := by
                  repeat' (first | exact Only.refl _ _ | refine Only.drewN ?_ _ | refine Only.drew ?_ | refine Only.alloc ?_ _ | refine Only.setCell ?_ (fun _ => by simp) _ | refine Only.setBlk ?_ (fun _ => by simp) _)
                have hspS : (((((w5).setCell ⟨pb, 0, none⟩ (.int .i64 x.at_)).setCell ⟨pb, 1, none⟩ (.int .i64 x.kind)).setCell ⟨pb, 2, none⟩ (.int .u64 x.num)).setCell ⟨pb, 3, none⟩ (.int .i64 x.node)).heap[pb]? = some (.cells #[.int .i64 x.at_, .int .i64 x.kind, .int .u64 x.num, .int .i64 x.node] 32 (0, 0)) := by
                  rw [blk_setCell_same (blk_setCell_same (blk_setCell_same (blk_setCell_same hsp5)))]
                  simp
                exact ⟨c + 1, x, Q2, by simp, HC2, HS2, (show _ from fun _ => HB2.out), hM5.only hoS (fun h => Nat.ne_of_lt hmw h), hq5.only hoS (fun c h1 h2 => h2.2 h1), hspS, Only.newS hall5 hoS (fun c hc => by rw [hc, Hk.out]; exact hkw)⟩
              case measure => simp [intOf]; omega
            · have j0 := free_of_blk hsp3 0
              have j1 := free_of_blk hsp3 1
              have j2 := free_of_blk hsp3 2
              have j3 := free_of_blk hsp3 3
              have m0 := cell_of_blk hsp3 0
              have m1 := cell_of_blk hsp3 1
              have m2 := cell_of_blk hsp3 2
              have m3 := cell_of_blk hsp3 3
              simp only [List.getElem?_toArray, List.getElem?_cons_zero, List.getElem?_cons_succ] at m0 m1 m2 m3
              have zpb : pb < w3.heap.size := Nat.lt_of_lt_of_le hpw1 ho3.size
              go_wp2_with fail
              go_roundw
              case rel =>
                have hoS : Only (fun c => c = pb) w3 (((((w3.setCell ⟨pb, 0, none⟩ (.int .i64 x.at_)).setCell ⟨pb, 1, none⟩ (.int .i64 x.kind)).setCell ⟨pb, 2, none⟩ (.int .u64 x.num)).setCell ⟨pb, 3, none⟩ (.int .i64 x.node)).alloc (.cells #[.int .i64 x.at_, .int .i64 x.kind, .int .u64 x.num, .int .i64 x.node] 32)) := by
                  repeat' (first | exact Only.refl _ _ | refine Only.drewN ?_ _ | refine Only.drew ?_ | refine Only.alloc ?_ _ | refine Only.setCell ?_ (fun _ => by simp) _ | refine Only.setBlk ?_ (fun _ => by simp) _)
                have hspS : (((((w3.setCell ⟨pb, 0, none⟩ (.int .i64 x.at_)).setCell ⟨pb, 1, none⟩ (.int .i64 x.kind)).setCell ⟨pb, 2, none⟩ (.int .u64 x.num)).setCell ⟨pb, 3, none⟩ (.int .i64 x.node)).alloc (.cells #[.int .i64 x.at_, .int .i64 x.kind, .int .u64 x.num, .int .i64 x.node] 32)).heap[pb]? = some (.cells #[.int .i64 x.at_, .int .i64 x.kind, .int .u64 x.num, .int .i64 x.node] 32 (0, 0)) := by
                  refine blk_alloc_old ?_
                  rw [blk_setCell_same (blk_setCell_same (blk_setCell_same (blk_setCell_same hsp3)))]
                  simp
                exact ⟨c + 1, x, Q2, by simp, HC2, HS2, (show _ from fun _ => HB2.out), hM3.only hoS (fun h => Nat.ne_of_lt hmw h), hq3.only hoS (fun c h1 h2 => h2.2 h1), hspS, Only.newS hall3 hoS (fun c hc => by rw [hc, Hk.out]; exact hkw)⟩
              case measure => simp [intOf]; omega
          · have hQ0 : Q = [] := by
              cases Q with
              | nil => rfl
              | cons y Q =>
                have h1 := hl y List.mem_cons_self
                have h2 := ((Go.Lit.wf_int_iff _ _).1 (Hwf.out y (HKL.out y (HS.out y List.mem_cons_self))).at_).2
                exact absurd (Int.lt_of_lt_of_le h1 h2) (by decide)
            subst hQ0
            subst hQ2
            have hoE : Only (fun _ => False) w3 (w3.alloc (.cells #[.int .i64 0, .int .i64 0, .int .u64 0, .int .i64 0] 32)) := by
              repeat' (first | exact Only.refl _ _ | refine Only.drewN ?_ _ | refine Only.drew ?_ | refine Only.alloc ?_ _ | refine Only.setCell ?_ (fun _ => by simp) _ | refine Only.setBlk ?_ (fun _ => by simp) _)
            have hlen := (hM3.only hoE id).len (rt := 3) (tys := #[26]) und26 rfl
            rw [tm_length] at hlen
            have hceq : ((c : Int) == (K.length : Int)) = true := by have := HC.out; simp at this; simp [this]
            have hq4 := hq3.only hoE (fun _ h _ => h)
            have hall := hall.trans' hoE
            clear hl
            go_wp2_with fail
            refine (qlen_any hq4).mono ?_
            rintro e w5 ⟨rfl, rfl⟩
            go_wp2
            go_ret
            exact ⟨rfl, Hk.out ▸ hall.below⟩
end Go.Proofs.Ytgabgdeakeliaaa
