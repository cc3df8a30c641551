/- Memory, block by block: what a call may have changed; blocks of cells; a map as a list of its entries. -/
import Derived.Test.YtcocmljollnpdaaDoorDmSeg
import Derived.Below
import Derived.Maps.Keyed
import Derived.Laws.CopyOwn
namespace Go.Dm
open Go.RowKit

/-- Of the blocks that were there only those of S may be others; new ones may have come. -/
structure Only (S : Nat → Prop) (w w' : World) : Prop where
  os : w'.os = w.os
  tape : w'.tape = w.tape
  output : w'.output = w.output
  size : w.heap.size ≤ w'.heap.size
  block : ∀ k, k < w.heap.size → ¬ S k → w'.heap[k]? = w.heap[k]?

theorem Only.refl (S : Nat → Prop) (w : World) : Only S w w := ⟨rfl, rfl, rfl, Nat.le_refl _, fun _ _ _ => rfl⟩
theorem Only.trans {S S' : Nat → Prop} {a b c : World} (h : Only S a b) (k : Only S' b c) (hs : ∀ i, i < a.heap.size → S' i → S i) : Only S a c :=
  ⟨k.os.trans h.os, k.tape.trans h.tape, k.output.trans h.output, Nat.le_trans h.size k.size, fun i hi hn =>
    (k.block i (Nat.lt_of_lt_of_le hi h.size) (fun h' => hn (hs i hi h'))).trans (h.block i hi hn)⟩
theorem Only.trans' {S : Nat → Prop} {a b c : World} (h : Only S a b) (k : Only S b c) : Only S a c := h.trans k fun _ _ h => h
theorem Only.mono {S S' : Nat → Prop} {w w' : World} (h : Only S w w') (hs : ∀ i, i < w.heap.size → S i → S' i) : Only S' w w' :=
  ⟨h.os, h.tape, h.output, h.size, fun k hk hn => h.block k hk fun h' => hn (hs k hk h')⟩
theorem Only.drew {S : Nat → Prop} {a w : World} (h : Only S a w) : Only S a w.drew := ⟨h.os, h.tape, h.output, h.size, h.block⟩
theorem Only.drewN {S : Nat → Prop} {a w : World} (h : Only S a w) (n : Nat) : Only S a (w.drewN n) := ⟨h.os, h.tape, h.output, h.size, h.block⟩
theorem Only.alloc {S : Nat → Prop} {a w : World} (h : Only S a w) (o : Obj) : Only S a (w.alloc o) :=
  ⟨h.os, h.tape, h.output, by simpa using Nat.le_succ_of_le h.size, fun k hk hn => (Below.heap_alloc _ _ _ (Nat.lt_of_lt_of_le hk h.size)).trans (h.block k hk hn)⟩
theorem Only.setCell {S : Nat → Prop} {a w : World} (h : Only S a w) {p : Addr} (hp : p.block < a.heap.size → S p.block) (u : Value) : Only S a (w.setCell p u) :=
  ⟨h.os, h.tape, h.output, by simpa using h.size, fun k hk hn => (Below.heap_setCell _ _ _ _ (fun e => hn (by subst e; exact hp hk))).trans (h.block k hk hn)⟩
theorem Only.below {w w' : World} (h : Only (fun _ => False) w w') : Below w.heap.size w w' := ⟨h.os, h.tape, h.output, h.size, fun k hk => h.block k hk id⟩
theorem Only.of_below {S : Nat → Prop} {w w' : World} (h : Below w.heap.size w w') : Only S w w' := ⟨h.os, h.tape, h.output, h.size, fun k hk _ => h.block k hk⟩
theorem Only.blk {S : Nat → Prop} {w w' : World} (h : Only S w w') {b : Nat} {o : Obj} (hb : w.heap[b]? = some o) (hn : ¬ S b) : w'.heap[b]? = some o :=
  (h.block b (Array.getElem?_eq_some_iff.1 hb).1 hn).trans hb

theorem Only.of_grown {w w' : World} {row : Option Nat} (h : w.grownBy w' row) : Only (fun c => some c = row) w w' := ⟨h.os, h.tape, h.output, h.size, fun k hk hn => h.block k hk hn⟩
/-- The worlds that may come of w with nothing but S turned. -/
structure Later (S : Nat → Prop) (w : World) where
  u : World
  only : Only S w u
instance {S : Nat → Prop} {w : World} : Nonempty (Later S w) := ⟨⟨w, Only.refl _ _⟩⟩
theorem later_cell {S : Nat → Prop} {w : World} {a : Addr} {v : Value} (h : w.cell? a = some v) (hn : ¬ S a.block) : ∀ x : Later S w, x.u.cell? a = some v := fun x => by
  have hb := World.block_lt_of_cell? w a h
  rw [World.cell?_of_block (w := w) (x.only.block _ hb hn)]; exact h

theorem wp_region_segL {P : Program} {id : Nat} {Q : Exit → Act → World → Prop} {l : List Oper} {a : Act} {w : World} (cl : List Nat) (S : Nat → Prop) (hm : P.follows .mixedOrders = true) (hp : planOk cl l.toArray = true)
    (h : seg P cl l.toArray (fun u => ∃ x : Later S w, u = x.u) (Q .normal) 0 l a w.drew) : (Code.region id l.toArray true).wp P Q a w :=
  wp_region_seg cl hm hp _ ⟨⟨_, (Only.refl _ _).drew⟩, rfl⟩ h

theorem add_none (b o n : Nat) : (⟨b, o, none⟩ : Addr).add n = ⟨b, o + n, none⟩ := by unfold Addr.add; split <;> simp_all

/-! Blocks of cells. -/
theorem blk_lt {w : World} {b : Nat} {o : Obj} (h : w.heap[b]? = some o) : b < w.heap.size := (Array.getElem?_eq_some_iff.1 h).1
theorem cell_of_blk {w : World} {b : Nat} {c : Array Value} {t : TypeId} {f : Nat × Nat} (h : w.heap[b]? = some (.cells c t f)) (i : Nat) : w.cell? ⟨b, i, none⟩ = c[i]? := by
  simp [World.cell?, h]
theorem free_of_blk {w : World} {b : Nat} {c : Array Value} {t : TypeId} (h : w.heap[b]? = some (.cells c t (0, 0))) (i : Nat) : w.frozen? ⟨b, i, none⟩ = false := by
  simp [World.frozen?, h]
theorem blk_setCell_same {w : World} {b i : Nat} {c : Array Value} {t : TypeId} {f : Nat × Nat} {v : Value} (h : w.heap[b]? = some (.cells c t f)) :
    (w.setCell ⟨b, i, none⟩ v).heap[b]? = some (.cells (c.setIfInBounds i v) t f) := by
  simp only [World.setCell, Array.getElem?_modify, h]
  simp
theorem blk_setCell_other {w : World} {b : Nat} {p : Addr} {v : Value} (h : p.block ≠ b) : (w.setCell p v).heap[b]? = w.heap[b]? :=
  Below.heap_setCell _ _ _ _ (Ne.symm h)
theorem blk_drew {w : World} {b : Nat} : w.drew.heap[b]? = w.heap[b]? := rfl
theorem blk_drewN {w : World} {b n : Nat} : (w.drewN n).heap[b]? = w.heap[b]? := rfl
theorem blk_alloc_old {w : World} {b : Nat} {o o' : Obj} (h : w.heap[b]? = some o) : (w.alloc o').heap[b]? = some o := by
  rw [Below.heap_alloc _ _ _ (blk_lt h)]; exact h
theorem blk_alloc_new {w : World} {o : Obj} : (w.alloc o).heap[w.heap.size]? = some o := by
  show (w.heap.push o)[w.heap.size]? = _
  simp

/-- The world with another object in a block. -/
def setBlk (w : World) (b : Nat) (o : Obj) : World := { w with heap := w.heap.setIfInBounds b o }
theorem setBlk_same {w : World} {b : Nat} {o o' : Obj} (h : w.heap[b]? = some o) : (setBlk w b o').heap[b]? = some o' := by
  have := blk_lt h
  simp [setBlk, this]
theorem setBlk_other {w : World} {b k : Nat} {o : Obj} (h : b ≠ k) : (setBlk w b o).heap[k]? = w.heap[k]? := by
  simp [setBlk, h]
theorem size_setBlk {w : World} {b : Nat} {o : Obj} : (setBlk w b o).heap.size = w.heap.size := by simp [setBlk]
theorem Only.setBlk {S : Nat → Prop} {a w : World} (h : Only S a w) {b : Nat} (hb : b < a.heap.size → S b) (o : Obj) : Only S a (setBlk w b o) :=
  ⟨h.os, h.tape, h.output, by rw [size_setBlk]; exact h.size, fun k hk hn => (setBlk_other (fun e => hn (by subst e; exact hb hk))).trans (h.block k hk hn)⟩

@[go_sem] theorem cell_setBlk (w : World) (b k i : Nat) (o : Obj) (h : b ≠ k) : (setBlk w b o).cell? ⟨k, i, none⟩ = w.cell? ⟨k, i, none⟩ := World.cell?_of_block (w := w) (setBlk_other h)
@[go_sem] theorem cell_setBlk_lt (w : World) (b k i : Nat) (o : Obj) (h : b < k) : (setBlk w b o).cell? ⟨k, i, none⟩ = w.cell? ⟨k, i, none⟩ := World.cell?_of_block (w := w) (setBlk_other (Nat.ne_of_lt h))
@[go_sem] theorem frozen_setBlk (w : World) (b k i : Nat) (o : Obj) (h : b ≠ k) : (setBlk w b o).frozen? ⟨k, i, none⟩ = w.frozen? ⟨k, i, none⟩ := World.frozen?_of_block (w := w) (setBlk_other h)
@[go_sem] theorem frozen_setBlk_lt (w : World) (b k i : Nat) (o : Obj) (h : b < k) : (setBlk w b o).frozen? ⟨k, i, none⟩ = w.frozen? ⟨k, i, none⟩ := World.frozen?_of_block (w := w) (setBlk_other (Nat.ne_of_lt h))
@[go_sem] theorem size_setBlk' (w : World) (b : Nat) (o : Obj) : (setBlk w b o).heap.size = w.heap.size := size_setBlk

/-! A map: its entries in the order in which they came. -/

/-- What a key's type must be good for. -/
structure KE (P : Program) (K : TypeId) (α : Type) where
  enc : α → Value
  ok : α → Prop
  inj : ∀ a b, enc a = enc b → a = b
  check : ∀ (w : World) (em : Bool) (a : α), ok a → (Instr.checkKey em 10000 K (enc a)).run P w = .ok () w
  find : ∀ (w : World) (a : α), ok a → ∀ es : List MapEntry, (∀ e ∈ es, ∃ b, ok b ∧ e.key = enc b) →
    ((Instr.findKey K (enc a) es).run P w = .ok none w ∧ ∀ e ∈ es, e.key ≠ enc a) ∨ ∃ j e, (Instr.findKey K (enc a) es).run P w = .ok (some (j, e.val)) w ∧ es[j]? = some e ∧ e.key = enc a
  stays : ∀ (w : World) (a : α), ok a → (Instr.keyThatStays (enc a) (enc a)).run P w = .ok (enc a) w

/-- What has the kit's law of keys. -/
def KE.ofKeyed {P : Program} {K : TypeId} {α : Type} (enc : α → Value) (ok : α → Prop) (inj : ∀ a b, enc a = enc b → a = b) (keyed : Maps.Keyed P K) (lit : ∀ a, ok a → ∃ l, keyOf P K (enc a) = some l) : KE P K α where
  enc := enc
  ok := ok
  inj := inj
  check w em a ha := by obtain ⟨l, hl⟩ := lit a ha; exact keyed.check w em hl
  find w a ha es hes := by
    obtain ⟨l, hl⟩ := lit a ha
    exact keyed.find w hl es fun e he => by
      obtain ⟨b, hb, hk⟩ := hes e he
      rw [hk]; exact lit b hb
  stays w a ha := by obtain ⟨l, hl⟩ := lit a ha; exact keyed.stays w hl

theorem findAsking_spec {P : Program} {K : TypeId} {α : Type} {enc : α → Value} {ok : α → Prop} {w : World} {a : α} (heq : ∀ b, ok b → ∃ r : Bool, (Op.equal K (enc a) (enc b)).run P w = .ok r w ∧ (r = true ↔ enc b = enc a)) :
    ∀ (es : List MapEntry) (i : Nat), (∀ e ∈ es, ∃ b, ok b ∧ e.key = enc b) →
    ((Instr.findAsking K (enc a) es i).run P w = .ok none w ∧ ∀ e ∈ es, e.key ≠ enc a) ∨ ∃ j e, (Instr.findAsking K (enc a) es i).run P w = .ok (some (i + j, e.val)) w ∧ es[j]? = some e ∧ e.key = enc a := by
  intro es
  induction es with
  | nil => intro i _; exact .inl ⟨rfl, by simp⟩
  | cons e es ih =>
    intro i hes
    obtain ⟨b, hb, hk⟩ := hes e List.mem_cons_self
    obtain ⟨r, hr, hiff⟩ := heq b hb
    have hrun : (Instr.findAsking K (enc a) (e :: es) i).run P w = (if r then (pure (some (i, e.val)) : Sem (Option (Nat × Value))) else Instr.findAsking K (enc a) es (i + 1)).run P w := by
      conv => lhs; unfold Instr.findAsking
      simp only [bind, Sem.run_bind', hk, hr, Result.andThen_ok]
    rw [hrun]
    cases r with
    | true => exact .inr ⟨0, e, rfl, rfl, hk.trans (hiff.1 rfl)⟩
    | false =>
      rcases ih (i + 1) (fun e' he' => hes e' (List.mem_cons_of_mem _ he')) with ⟨h1, h2⟩ | ⟨j, e', h1, h2, h3⟩
      · refine .inl ⟨h1, fun e' he' => ?_⟩
        rcases List.mem_cons.1 he' with rfl | he'
        · intro h; have := hiff.2 (hk.symm.trans h); cases this
        · exact h2 e' he'
      · exact .inr ⟨j + 1, e', by rw [show i + (j + 1) = i + 1 + j by omega]; exact h1, by simpa using h2, h3⟩

/-- A struct as a key. -/
def KE.ofStruct {P : Program} {K : TypeId} {α : Type} (enc : α → Value) (ok : α → Prop) (inj : ∀ a b, enc a = enc b → a = b) {fs : Array Field} (hu : P.underlying K = some (.struct fs))
    (agg : ∀ a, ∃ cs, enc a = .agg cs)
    (check : ∀ (w : World) (em : Bool) (a : α), (Instr.checkKey em 10000 K (enc a)).run P w = .ok () w)
    (heq : ∀ (w : World) (a b : α), ∃ r : Bool, (Op.equal K (enc a) (enc b)).run P w = .ok r w ∧ (r = true ↔ enc b = enc a))
    (same : ∀ a, Instr.sameBits 10000 (enc a) (enc a) = true) : KE P K α where
  enc := enc
  ok := ok
  inj := inj
  check w em a _ := check w em a
  find w a ha es hes := by
    have key := findAsking_spec (P := P) (K := K) (enc := enc) (ok := ok) (w := w) (a := a) (fun b _ => heq w a b) es 0 hes
    have hrun : (Instr.findKey K (enc a) es).run P w = (Instr.findAsking K (enc a) es 0).run P w ∨ (es = [] ∧ (Instr.findKey K (enc a) es).run P w = .ok none w) := by
      unfold Instr.findKey
      simp only [bind, Sem.run_bind', run_underlying hu, Result.andThen_ok]
      obtain ⟨cs, hcs⟩ := agg a
      cases es with
      | nil => exact .inr ⟨rfl, rfl⟩
      | cons e es =>
        refine .inl ?_
        have : Instr.findNow (.struct fs) (enc a) (e :: es) 0 = none := by
          unfold Instr.findNow
          rw [hcs]
          rfl
        rw [this]
    rcases hrun with h | ⟨rfl, h⟩
    · rw [h]
      simpa using key
    · exact .inl ⟨h, by simp⟩
  stays w a _ := by
    unfold Instr.keyThatStays
    rw [same a]
    rfl

def akeys {α : Type} (l : List (α × Value)) : List α := l.map (·.1)
section
variable {α : Type} [DecidableEq α]
def aget (l : List (α × Value)) (a : α) : Option Value := (l.find? fun p => decide (p.1 = a)).map (·.2)
def ahas (l : List (α × Value)) (a : α) : Bool := l.any fun p => decide (p.1 = a)
def aput (l : List (α × Value)) (a : α) (v : Value) : List (α × Value) := if ahas l a then l.map (fun p => if p.1 = a then (a, v) else p) else l ++ [(a, v)]
def adel (l : List (α × Value)) (a : α) : List (α × Value) := l.filter fun p => decide (p.1 ≠ a)

theorem aget_some_of_mem {l : List (α × Value)} (hn : (akeys l).Nodup) {a : α} {v : Value} (h : (a, v) ∈ l) : aget l a = some v := by
  induction l with
  | nil => cases h
  | cons p l ih =>
    unfold aget
    rw [List.find?_cons]
    simp only [akeys, List.map_cons, List.nodup_cons] at hn
    rcases List.mem_cons.1 h with rfl | h
    · simp
    · have : p.1 ≠ a := fun e => hn.1 (by rw [e]; exact List.mem_map.2 ⟨(a, v), h, rfl⟩)
      simp only [this, decide_false]
      exact ih hn.2 h
theorem mem_of_aget {l : List (α × Value)} {a : α} {v : Value} (h : aget l a = some v) : (a, v) ∈ l := by
  unfold aget at h
  cases hf : l.find? fun p => decide (p.1 = a) with
  | none => rw [hf] at h; cases h
  | some p =>
    rw [hf] at h
    have h1 := List.find?_some hf
    have h2 := List.mem_of_find?_eq_some hf
    simp only [decide_eq_true_eq] at h1
    simp only [Option.map_some, Option.some.injEq] at h
    rw [← h1, ← h]
    exact h2
theorem ahas_iff {l : List (α × Value)} {a : α} : ahas l a = true ↔ a ∈ akeys l := by
  simp [ahas, akeys]
theorem aget_isSome {l : List (α × Value)} {a : α} : (aget l a).isSome = ahas l a := by
  induction l with
  | nil => rfl
  | cons p l ih =>
    unfold aget ahas at *
    rw [List.find?_cons, List.any_cons]
    by_cases h : p.1 = a
    · simp [h]
    · simp only [h, decide_false, Bool.false_or]
      exact ih
theorem aget_none {l : List (α × Value)} {a : α} (h : ahas l a = false) : aget l a = none := by
  have := aget_isSome (l := l) (a := a)
  rw [h] at this
  cases hg : aget l a with
  | none => rfl
  | some v => rw [hg] at this; cases this
theorem akeys_aput {l : List (α × Value)} {a : α} {v : Value} : akeys (aput l a v) = if ahas l a then akeys l else akeys l ++ [a] := by
  unfold aput
  split
  · unfold akeys
    rw [List.map_map]
    refine List.map_congr_left fun p _ => ?_
    by_cases h : p.1 = a <;> simp [h]
  · simp [akeys]
theorem nodup_aput {l : List (α × Value)} {a : α} {v : Value} (h : (akeys l).Nodup) : (akeys (aput l a v)).Nodup := by
  rw [akeys_aput]
  split
  · exact h
  · rename_i hh
    refine List.nodup_append.2 ⟨h, by simp, fun x hx y hy e => ?_⟩
    simp only [List.mem_singleton] at hy
    subst hy; subst e
    exact hh (ahas_iff.2 hx)
theorem akeys_adel {l : List (α × Value)} {a : α} : akeys (adel l a) = (akeys l).filter fun x => decide (x ≠ a) := by
  unfold akeys adel
  rw [List.filter_map]
  rfl
theorem nodup_adel {l : List (α × Value)} {a : α} (h : (akeys l).Nodup) : (akeys (adel l a)).Nodup := by
  rw [akeys_adel]; exact h.filter _
theorem aget_aput {l : List (α × Value)} {a b : α} {v : Value} : aget (aput l a v) b = if b = a then some v else aget l b := by
  unfold aput
  split
  · rename_i h
    induction l with
    | nil => simp [ahas] at h
    | cons p l ih =>
      unfold aget at *
      rw [List.map_cons, List.find?_cons]
      by_cases hpa : p.1 = a
      · by_cases hb : b = a
        · subst hb; simp [hpa]
        · have hab : a ≠ b := fun e => hb e.symm
          have hpb : p.1 ≠ b := fun e => hb (e.symm.trans hpa)
          simp only [hpa, if_true, hab, decide_false, hb, if_false]
          rw [List.find?_cons]
          simp only [hpb, decide_false]
          by_cases hh : ahas l a = true
          · have := ih hh
            rw [if_neg hb] at this
            exact this
          · have : l.map (fun p => if p.1 = a then (a, v) else p) = l := by
              rw [List.map_congr_left (g := id), List.map_id]
              intro q hq
              have : q.1 ≠ a := fun e => hh (ahas_iff.2 (List.mem_map.2 ⟨q, hq, e⟩))
              simp [this]
            rw [this]
      · simp only [hpa, if_false]
        have hh : ahas l a = true := by simpa [ahas, hpa] using h
        by_cases hpb : p.1 = b
        · have hb : b ≠ a := fun e => hpa (hpb.trans e)
          simp [hpb, hb]
        · rw [List.find?_cons]
          simp only [hpb, decide_false]
          exact ih hh
  · rename_i h
    have hh : ahas l a = false := by simpa using h
    unfold aget
    rw [List.find?_append]
    by_cases hb : b = a
    · subst hb
      have := aget_none hh
      unfold aget at this
      rw [if_pos rfl]
      cases hf : l.find? fun p => decide (p.1 = b) with
      | none => simp
      | some q => rw [hf] at this; cases this
    · have hab : a ≠ b := fun e => hb e.symm
      simp [hb, hab]
theorem aget_adel {l : List (α × Value)} {a b : α} : aget (adel l a) b = if b = a then none else aget l b := by
  unfold aget adel
  rw [List.find?_filter]
  by_cases hb : b = a
  · subst hb
    rw [if_pos rfl]
    have : (l.find? fun p => decide (decide (p.1 ≠ b) = true ∧ decide (p.1 = b) = true)) = none := by
      rw [List.find?_eq_none]
      intro p _
      by_cases h : p.1 = b <;> simp [h]
    rw [this]; rfl
  · rw [if_neg hb]
    congr 1
    refine congrArg (fun f => List.find? f l) (funext fun p => ?_)
    by_cases h : p.1 = b
    · simp [h, hb]
    · simp [h]
end

section
variable {P : Program} {K : TypeId} {α : Type}

/-- Block b is a map with just these entries. -/
def MapIs (E : KE P K α) (w : World) (b : Nat) (l : List (α × Value)) : Prop :=
  ∃ es clock, w.heap[b]? = some (.map es clock) ∧ es.toList.map (fun e => (e.key, e.val)) = l.map (fun p => (E.enc p.1, p.2)) ∧
    (es.toList.map (·.born)).Pairwise (· < ·) ∧ (∀ e ∈ es.toList, e.born < clock) ∧ (akeys l).Nodup ∧ ∀ a ∈ akeys l, E.ok a

theorem MapIs.kept {E : KE P K α} {w w' : World} {b : Nat} {l : List (α × Value)} (h : MapIs E w b l) (hb : w'.heap[b]? = w.heap[b]?) : MapIs E w' b l := by
  obtain ⟨es, clock, h1, h2⟩ := h
  exact ⟨es, clock, hb.trans h1, h2⟩
theorem MapIs.lt {E : KE P K α} {w : World} {b : Nat} {l : List (α × Value)} (h : MapIs E w b l) : b < w.heap.size := by
  obtain ⟨es, clock, h1, _⟩ := h
  exact blk_lt h1
theorem MapIs.size {E : KE P K α} {w : World} {b : Nat} {l : List (α × Value)} (h : MapIs E w b l) : ∃ es clock, w.heap[b]? = some (.map es clock) ∧ es.size = l.length := by
  obtain ⟨es, clock, h1, h2, _⟩ := h
  have := congrArg List.length h2
  simp at this
  exact ⟨es, clock, h1, this⟩

end
section
variable {P : Program} {K : TypeId} {α : Type} [DecidableEq α]
/-- Where a key stands among the entries. -/
theorem MapIs.find {E : KE P K α} {l : List (α × Value)} {es : List MapEntry} (h2 : es.map (fun e => (e.key, e.val)) = l.map (fun p => (E.enc p.1, p.2))) (hn : (akeys l).Nodup) (hok : ∀ a ∈ akeys l, E.ok a) (w : World) (a : α) (ha : E.ok a) :
    ((Instr.findKey K (E.enc a) es).run P w = .ok none w ∧ ahas l a = false) ∨
    ∃ j e v, (Instr.findKey K (E.enc a) es).run P w = .ok (some (j, e.val)) w ∧ es[j]? = some e ∧ l[j]? = some (a, v) ∧ e.key = E.enc a ∧ e.val = v := by
  have hlit : ∀ e ∈ es, ∃ b, E.ok b ∧ e.key = E.enc b := fun e he => by
    have : (e.key, e.val) ∈ l.map (fun p => (E.enc p.1, p.2)) := by rw [← h2]; exact List.mem_map.2 ⟨e, he, rfl⟩
    obtain ⟨p, hp, hpe⟩ := List.mem_map.1 this
    simp only [Prod.mk.injEq] at hpe
    exact ⟨_, hok _ (List.mem_map.2 ⟨p, hp, rfl⟩), hpe.1.symm⟩
  rcases E.find w a ha es hlit with ⟨h, hne⟩ | ⟨j, e, h, hj, hk⟩
  · refine .inl ⟨h, ?_⟩
    cases hh : ahas l a with
    | false => rfl
    | true =>
      obtain ⟨p, hp, rfl⟩ := List.mem_map.1 (ahas_iff.1 hh)
      have : (E.enc p.1, p.2) ∈ es.map (fun e => (e.key, e.val)) := by rw [h2]; exact List.mem_map.2 ⟨p, hp, rfl⟩
      obtain ⟨e, he, hee⟩ := List.mem_map.1 this
      simp only [Prod.mk.injEq] at hee
      exact absurd hee.1 (hne e he)
  · have h3 := congrArg (fun x => x[j]?) h2
    simp only [List.getElem?_map, hj, Option.map_some] at h3
    cases hlj : l[j]? with
    | none => rw [hlj] at h3; cases h3
    | some p =>
      rw [hlj] at h3
      simp only [Option.map_some, Option.some.injEq, Prod.mk.injEq] at h3
      have : p.1 = a := E.inj _ _ (h3.1.symm.trans hk)
      obtain ⟨pa, pv⟩ := p
      dsimp only at this h3
      subst this
      exact .inr ⟨j, e, pv, h, hj, hlj, hk, h3.2⟩

theorem MapIs.lookup {E : KE P K α} {w : World} {b : Nat} {l : List (α × Value)} (h : MapIs E w b l) {T e : TypeId} (ht : P.underlying T = some (.map K e)) {z : Value} (hz : (zeroValue e).run P w = .ok z w) (a : α) (ha : E.ok a) (ok : Bool) :
    (Instr.lookup T (.map (some b)) (E.enc a) ok).run P w = .ok (if ok then .tuple #[(aget l a).getD z, .bool (ahas l a)] else (aget l a).getD z) w := by
  obtain ⟨es, clock, h1, h2, h3, h4, h5, h6⟩ := h
  have hc := E.check w es.isEmpty a ha
  unfold Instr.lookup
  simp only [bind, Sem.run_bind', run_underlying ht, Result.andThen_ok, getObj, Sem.run, h1, pure]
  simp only [Sem.bind, Sem.run_bind', Sem.run, h1, Result.andThen_ok, hc]
  rcases MapIs.find h2 h5 h6 w a ha with ⟨hf, hh⟩ | ⟨j, e', v, hf, hj, hlj, hk, hv⟩
  · rw [hf]
    simp only [Result.andThen_ok, Sem.run_bind', hz, Sem.run, aget_none hh, hh]
    cases ok <;> rfl
  · rw [hf]
    have hm : (a, v) ∈ l := List.mem_of_getElem? hlj
    have hg := aget_some_of_mem h5 hm
    have hh : ahas l a = true := by rw [← aget_isSome, hg]; rfl
    simp only [Result.andThen_ok, Sem.run, hg, hh, hv]
    cases ok <;> rfl

omit [DecidableEq α] in
theorem map_erase {β γ : Type} (f : β → γ) (l : List β) (j : Nat) : (l.eraseIdx j).map f = (l.map f).eraseIdx j := by
  rw [List.eraseIdx_eq_take_drop_succ, List.eraseIdx_eq_take_drop_succ, List.map_append, List.map_take, List.map_drop]
omit [DecidableEq α] in
theorem map_setBlk {E : KE P K α} {w : World} {b : Nat} {l l' : List (α × Value)} (h : MapIs E w b l) {es' : Array MapEntry} {clock' : Nat}
    (h2 : es'.toList.map (fun e => (e.key, e.val)) = l'.map (fun p => (E.enc p.1, p.2))) (h3 : (es'.toList.map (·.born)).Pairwise (· < ·)) (h4 : ∀ e ∈ es'.toList, e.born < clock') (h5 : (akeys l').Nodup) (h6 : ∀ a ∈ akeys l', E.ok a) :
    MapIs E (setBlk w b (.map es' clock')) b l' := by
  obtain ⟨es, clock, h1, _⟩ := h
  exact ⟨es', clock', setBlk_same h1, h2, h3, h4, h5, h6⟩

/-- m[k] = v. -/
theorem MapIs.update {E : KE P K α} {w : World} {b : Nat} {l : List (α × Value)} (h : MapIs E w b l) {T e : TypeId} (ht : P.underlying T = some (.map K e)) (a : α) (ha : E.ok a) (v : Value) :
    ∃ o, (Instr.mapUpdate T (.map (some b)) (E.enc a) v).run P w = .ok () (setBlk w b o) ∧ MapIs E (setBlk w b o) b (aput l a v) := by
  have h0 := h
  obtain ⟨es, clock, h1, h2, h3, h4, h5, h6⟩ := h
  have hc := E.check w false a ha
  have hs := E.stays w a ha
  have hset : ∀ o, (setObj b o).run P w = .ok () (setBlk w b o) := fun o => by
    unfold setObj; simp only [Sem.run, h1]; rfl
  unfold Instr.mapUpdate
  simp only [bind, Sem.run_bind', run_underlying ht, Result.andThen_ok, getObj, Sem.run, h1, pure]
  simp only [Sem.bind, Sem.run_bind', Sem.run, h1, Result.andThen_ok, hc]
  rcases MapIs.find h2 h5 h6 w a ha with ⟨hf, hh⟩ | ⟨j, e', v', hf, hj, hlj, hk, hv⟩
  · rw [hf]
    refine ⟨.map (es.push ⟨E.enc a, v, clock⟩) (clock + 1), ?_, map_setBlk h0 ?_ ?_ ?_ (nodup_aput h5) ?_⟩
    · simp only [Result.andThen_ok, hset]
    · unfold aput
      rw [if_neg (by simp [hh])]
      simp [h2]
    · rw [Array.toList_push, List.map_append, List.pairwise_append]
      refine ⟨h3, by simp, fun x hx y hy => ?_⟩
      simp only [List.map_cons, List.map_nil, List.mem_singleton] at hy
      subst hy
      obtain ⟨e, he, rfl⟩ := List.mem_map.1 hx
      exact h4 e he
    · intro e he
      rw [Array.toList_push] at he
      rcases List.mem_append.1 he with he | he
      · exact Nat.lt_succ_of_lt (h4 e he)
      · simp only [List.mem_singleton] at he
        subst he
        exact Nat.lt_succ_self _
    · intro x hx
      rw [akeys_aput, if_neg (by simp [hh])] at hx
      rcases List.mem_append.1 hx with hx | hx
      · exact h6 x hx
      · simp only [List.mem_singleton] at hx; subst hx; exact ha
  · rw [hf]
    have hm : (a, v') ∈ l := List.mem_of_getElem? hlj
    have hh : ahas l a = true := by rw [← aget_isSome, aget_some_of_mem h5 hm]; rfl
    have hej : es[j]? = some e' := by simpa using hj
    have hkey : ((es[j]?).map (·.key)).getD (E.enc a) = E.enc a := by rw [hej]; exact hk
    refine ⟨.map (es.modify j fun e => { e with key := E.enc a, val := v }) clock, ?_, map_setBlk h0 ?_ ?_ ?_ (nodup_aput h5) ?_⟩
    · simp only [Result.andThen_ok, Sem.run_bind', hkey, hs, hset]
    · -- the entries with another value at one place
      have hlen : (es.toList.map (fun e => (e.key, e.val))).length = (l.map (fun p => (E.enc p.1, p.2))).length := by rw [h2]
      simp only [List.length_map, Array.length_toList] at hlen
      refine List.ext_getElem? fun i => ?_
      unfold aput
      rw [if_pos hh]
      simp only [List.getElem?_map, Array.getElem?_toList, Array.getElem?_modify]
      have h2i := congrArg (fun x => x[i]?) h2
      simp only [List.getElem?_map, Array.getElem?_toList] at h2i
      by_cases hij : j = i
      · subst hij
        simp [hej, hlj]
      · rw [if_neg hij, h2i]
        cases hli : l[i]? with
        | none => rfl
        | some p =>
          have : p.1 ≠ a := fun e => hij (by
            have hi' := List.getElem?_eq_some_iff.1 hli
            have hj' := List.getElem?_eq_some_iff.1 hlj
            obtain ⟨hi1, hi2⟩ := hi'
            obtain ⟨hj1, hj2⟩ := hj'
            have hk1 : (akeys l)[i]'(by simpa [akeys] using hi1) = a := by simp [akeys, hi2, e]
            have hk2 : (akeys l)[j]'(by simpa [akeys] using hj1) = a := by simp [akeys, hj2]
            exact ((List.getElem_inj (h₀ := by simpa [akeys] using hj1) (h₁ := by simpa [akeys] using hi1) h5).1 (hk2.trans hk1.symm)))
          simp [this]
    · have : (es.modify j fun e => { e with key := E.enc a, val := v }).toList.map (·.born) = es.toList.map (·.born) := by
        refine List.ext_getElem? fun i => ?_
        simp only [List.getElem?_map, Array.getElem?_toList, Array.getElem?_modify]
        by_cases hij : j = i
        · subst hij; rw [if_pos rfl, hej]; rfl
        · rw [if_neg hij]
      rw [this]; exact h3
    · intro e he
      obtain ⟨i, hi⟩ := List.mem_iff_getElem?.1 he
      simp only [Array.getElem?_toList, Array.getElem?_modify] at hi
      by_cases hij : j = i
      · subst hij
        rw [if_pos rfl, hej] at hi
        simp only [Option.map_some, Option.some.injEq] at hi
        subst hi
        exact h4 e' (List.mem_of_getElem? hj)
      · rw [if_neg hij] at hi
        exact h4 e (List.mem_of_getElem? (by simpa using hi))
    · intro x hx
      rw [akeys_aput, if_pos hh] at hx
      exact h6 x hx

/-- delete(m, k). -/
theorem MapIs.delete {E : KE P K α} {w : World} {b : Nat} {l : List (α × Value)} (h : MapIs E w b l) {T e rt : TypeId} {tys : Array TypeId} (ht : P.underlying T = some (.map K e)) (hty : tys[0]? = some T) (a : α) (ha : E.ok a) :
    ∃ o, (Builtin.delete_ tys rt #[.map (some b), E.enc a]).run P w = .ok (.tuple #[]) (setBlk w b o) ∧ MapIs E (setBlk w b o) b (adel l a) := by
  have h0 := h
  obtain ⟨es, clock, h1, h2, h3, h4, h5, h6⟩ := h
  have hc := E.check w es.isEmpty a ha
  have hset : ∀ o, (setObj b o).run P w = .ok () (setBlk w b o) := fun o => by
    unfold setObj; simp only [Sem.run, h1]; rfl
  unfold Builtin.delete_
  simp only [hty, List.getElem?_toArray, List.getElem?_cons_zero, List.getElem?_cons_succ]
  simp only [bind, Sem.run_bind', run_underlying ht, Result.andThen_ok, getObj, Sem.run, h1, pure]
  simp only [Sem.bind, Sem.run_bind', Sem.run, h1, Result.andThen_ok, hc]
  rcases MapIs.find h2 h5 h6 w a ha with ⟨hf, hh⟩ | ⟨j, e', v', hf, hj, hlj, hk, hv⟩
  · rw [hf]
    refine ⟨.map es clock, ?_, map_setBlk h0 ?_ h3 h4 (nodup_adel h5) ?_⟩
    · simp only [Result.andThen_ok, Sem.run_bind', hset, Sem.run]
    · have : adel l a = l := by
        unfold adel
        refine List.filter_eq_self.2 fun p hp => ?_
        have : p.1 ≠ a := fun e => by
          have := ahas_iff.2 (List.mem_map.2 ⟨p, hp, e⟩ : a ∈ akeys l)
          rw [hh] at this; cases this
        simp [this]
      rw [this]; exact h2
    · intro x hx
      rw [akeys_adel] at hx
      exact h6 x (List.mem_filter.1 hx).1
  · rw [hf]
    have hej : es[j]? = some e' := by simpa using hj
    have hjs : j < es.size := (Array.getElem?_eq_some_iff.1 hej).1
    have hjl : j < l.length := (List.getElem?_eq_some_iff.1 hlj).1
    have hdel : adel l a = l.eraseIdx j := by
      unfold adel
      have hnk : ∀ i p, l[i]? = some p → i ≠ j → p.1 ≠ a := fun i p hli hij e => hij (by
        obtain ⟨hi1, hi2⟩ := List.getElem?_eq_some_iff.1 hli
        obtain ⟨hj1, hj2⟩ := List.getElem?_eq_some_iff.1 hlj
        have hk1 : (akeys l)[i]'(by simpa [akeys] using hi1) = a := by simp [akeys, hi2, e]
        have hk2 : (akeys l)[j]'(by simpa [akeys] using hj1) = a := by simp [akeys, hj2]
        exact ((List.getElem_inj (h₀ := by simpa [akeys] using hi1) (h₁ := by simpa [akeys] using hj1) h5).1 (hk1.trans hk2.symm)))
      rw [List.eraseIdx_eq_take_drop_succ]
      conv => lhs; rw [← List.take_append_drop j l, List.drop_eq_getElem_cons hjl]
      have hlj' : l[j] = (a, v') := (List.getElem?_eq_some_iff.1 hlj).2
      rw [List.filter_append, List.filter_cons, hlj']
      simp only [ne_eq, not_true_eq_false, decide_false, Bool.false_eq_true, if_false]
      congr 1
      · refine List.filter_eq_self.2 fun p hp => ?_
        obtain ⟨i, hi⟩ := List.mem_iff_getElem?.1 hp
        rw [List.getElem?_take] at hi
        split at hi
        · rename_i hij
          simp [hnk i p hi (by omega)]
        · cases hi
      · refine List.filter_eq_self.2 fun p hp => ?_
        obtain ⟨i, hi⟩ := List.mem_iff_getElem?.1 hp
        rw [List.getElem?_drop] at hi
        simp [hnk _ p hi (by omega)]
    have hes : (es.eraseIdxIfInBounds j).toList = es.toList.eraseIdx j := by
      rw [Array.eraseIdxIfInBounds_eq]
      simp [hjs]
    refine ⟨.map (es.eraseIdxIfInBounds j) clock, ?_, map_setBlk h0 ?_ ?_ ?_ (nodup_adel h5) ?_⟩
    · simp only [Result.andThen_ok, Sem.run_bind', hset, Sem.run]
    · rw [hes, hdel, map_erase, map_erase, h2]
    · rw [hes, map_erase]
      exact h3.sublist (List.eraseIdx_sublist _ _)
    · intro e he
      rw [hes] at he
      exact h4 e ((List.eraseIdx_sublist _ _).mem he)
    · intro x hx
      rw [akeys_adel] at hx
      exact h6 x (List.mem_filter.1 hx).1

omit [DecidableEq α] in
theorem MapIs.len {E : KE P K α} {w : World} {b : Nat} {l : List (α × Value)} (h : MapIs E w b l) {T e rt : TypeId} {tys : Array TypeId} (ht : P.underlying T = some (.map K e)) (hty : tys[0]? = some T) :
    (Builtin.len_ tys rt #[.map (some b)]).run P w = .ok (.int .i64 l.length) w := by
  obtain ⟨es, clock, h1, h2, _⟩ := h
  have hl : es.size = l.length := by have := congrArg List.length h2; simpa using this
  unfold Builtin.len_
  simp only [hty, List.getElem?_toArray, List.getElem?_cons_zero, List.getElem?_cons_succ]
  simp only [bind, Sem.run_bind', run_underlying ht, Result.andThen_ok, getObj, Sem.run, h1, pure]
  simp only [Sem.bind, Sem.run_bind', Sem.run, h1, Result.andThen_ok, hl, goInt]
end

/-! Stores into a row of the call's own. -/
theorem setRow_eq_setBlk {w : World} {g : Nat} {cur c : Array Value} {t : TypeId} {f : Nat × Nat} (h : w.heap[g]? = some (.cells cur t f)) : w.setRow g c = setBlk w g (.cells c t f) := by
  unfold World.setRow setBlk
  congr 1
  refine Array.ext_getElem? fun i => ?_
  rw [Array.getElem?_modify, Array.getElem?_setIfInBounds]
  by_cases hi : g = i
  · subst hi
    have := blk_lt h
    have h2 : w.heap[g] = .cells cur t f := (Array.getElem?_eq_some_iff.1 h).2
    simp [this, h2]
  · simp [hi]

theorem take_splice (cur : List Value) (o n : Nat) (cs : List Value) (h : o + cs.length ≤ n) (hn : n ≤ cur.length) : (splice cur o cs).take n = splice (cur.take n) o cs := by
  unfold splice
  refine List.ext_getElem? fun j => ?_
  simp only [List.getElem?_take, List.getElem?_append, List.length_take, List.getElem?_drop]
  by_cases hj : j < n
  · simp only [hj, if_true]
    by_cases h1 : j < min o cur.length
    · have h2 : j < min o (min n cur.length) := by omega
      rw [if_pos h1, if_pos h2]
    · have h2 : ¬ j < min o (min n cur.length) := by omega
      rw [if_neg h1, if_neg h2]
      have e1 : min o cur.length = o := by omega
      have e2 : min o (min n cur.length) = o := by omega
      rw [e1, e2]
      by_cases h3 : j - o < cs.length
      · rw [if_pos h3, if_pos h3]
      · rw [if_neg h3, if_neg h3, if_pos (by omega)]
  · simp only [hj, if_false]
    symm
    have h1 : ¬ j < min o (min n cur.length) := by omega
    rw [if_neg h1]
    have e2 : min o (min n cur.length) = o := by omega
    rw [e2, if_neg (by omega), if_neg (by omega)]

/-- x[i] = v, the element of however many cells. -/
theorem wpl_store_row {P : Program} {ops : Array Oper} {Q : Exit → Act → World → Prop} {rest : List Oper} {o : Oper} {a : Act} {w : World} (hg : o.guard = none) (hd : o.dst = none) (t : TypeId) (p x : Operand) (hop : o.op = .store t p x)
    (base : Nat) (e : TypeId) (size g n cap i : Nat) (xs : List Value) (hown : w.ownsRow base e size (.slice (some ⟨g, 0, none⟩) n cap) n xs) (hi : i < n) (off : Nat) (hoff : off = i * size) (hp : a.eval p = .pointer (some ⟨g, off, none⟩))
    (V : Value) (cs : List Value) (hx : a.eval x = V) (hV : V.cells.toList = cs) (hl : cs.length = size) (hsz : (P.info? t).map (·.size) = some size) (h1 : ∀ v ∈ cs, v.oneCell' = true)
    (hK : ∀ ob, (setBlk w g ob).ownsRow base e size (.slice (some ⟨g, 0, none⟩) n cap) n (splice xs off cs) → wpList P ops Q rest a (setBlk w g ob)) : wpList P ops Q (o :: rest) a w := by
  refine wpList_plain hg fun K hK' => ?_
  subst hoff
  obtain ⟨hlen, ⟨h0, _⟩ | ⟨g', cap', cur, hv, hb, hh, hn, hm, hs, ht⟩⟩ := hown
  · simp at h0
  · injection hv with hv1 hv2 hv3
    injection hv1 with hv1
    injection hv1 with hv1
    subst hv1; subst hv3
    have hin : i * size + size ≤ n * size := by have := Nat.mul_le_mul_right size (show i + 1 ≤ n by omega); rw [Nat.add_mul, Nat.one_mul] at this; exact this
    have hcap : n * size ≤ cap * size := Nat.mul_le_mul_right size hn
    have hst : (storeVar t ⟨g, i * size, none⟩ V).run P w = .ok () (setBlk w g (.cells (splice cur.toList (i * size) cs).toArray e (0, 0))) := by
      obtain ⟨inf, hinf, hsize⟩ : ∃ inf, P.info? t = some inf ∧ inf.size = size := by
        cases hh' : P.info? t with
        | none => rw [hh'] at hsz; cases hsz
        | some inf => rw [hh'] at hsz; exact ⟨inf, rfl, by simpa using hsz⟩
      have hsizeOf : (sizeOf t).run P w = .ok size w := by
        unfold sizeOf
        simp [typeInfo, hinf, hsize]
      unfold storeVar
      have hc : V.cells.size = size := by rw [← hl, ← hV]; simp
      simp only [bind, Sem.run_bind', hsizeOf, Result.andThen_ok, hc, ne_eq, not_true_eq_false, if_false]
      have := run_storeCells_at (P := P) g (i * size) e cs 0 cur w hh (by omega) h1
      rw [hV]
      rw [Nat.add_zero, List.append_assoc] at this
      rw [setRow_eq_setBlk hh] at this
      simpa [splice, Nat.add_assoc] using this
    unfold Oper.wp execOp
    simp only [hop, hp, hx, Instr.storeAt, Instr.sureAddr, bind, Sem.run_bind', pure, Sem.run, Result.andThen_ok, hst]
    simp only [Oper.upon, hd, Act.put]
    refine hK' _ _ (hK _ ⟨?_, .inr ⟨g, cap, (splice cur.toList (i * size) cs).toArray, rfl, hb, setBlk_same hh, hn, hm, ?_, ?_⟩⟩)
    · rw [length_splice _ _ _ (by rw [hlen]; omega), hlen]
    · rw [List.size_toArray, length_splice _ _ _ (by simp; omega)]; simpa using hs
    · rw [← ht]
      exact take_splice _ _ _ _ (by omega) (by simp; omega)

/-- m[k] = v. -/
theorem wpl_mapUpdate {P : Program} {K : TypeId} {α : Type} [DecidableEq α] {ops : Array Oper} {Q : Exit → Act → World → Prop} {rest : List Oper} {o : Oper} {a : Act} {w : World} (hg : o.guard = none) (hd : o.dst = none) (t : TypeId) (m k x : Operand) (hop : o.op = .mapUpdate t m k x)
    (E : KE P K α) (e : TypeId) (ht : P.underlying t = some (.map K e)) (b : Nat) (l : List (α × Value)) (h : MapIs E w b l) (hm : a.eval m = .map (some b)) (key : α) (hk : a.eval k = E.enc key) (hok : E.ok key) (v : Value) (hx : a.eval x = v)
    (hK : ∀ ob, MapIs E (setBlk w b ob) b (aput l key v) → wpList P ops Q rest a (setBlk w b ob)) : wpList P ops Q (o :: rest) a w := by
  refine wpList_plain hg fun K' hK' => ?_
  obtain ⟨ob, hrun, hmap⟩ := h.update ht key hok v
  unfold Oper.wp execOp
  simp only [hop, hm, hk, hx, bind, Sem.run_bind', hrun, Result.andThen_ok, pure, Sem.run]
  simp only [Oper.upon, hd, Act.put]
  exact hK' _ _ (hK _ hmap)

/-- delete(m, k). -/
theorem wpl_delete {P : Program} {K : TypeId} {α : Type} [DecidableEq α] {ops : Array Oper} {Q : Exit → Act → World → Prop} {rest : List Oper} {o : Oper} {a : Act} {w : World} (hg : o.guard = none) (hd : o.dst = none) (t kt : TypeId) (m k : Operand) (hop : o.op = .call { callee := .builtin .delete, args := #[m, k], argTypes := #[t, kt] })
    (E : KE P K α) (e : TypeId) (ht : P.underlying t = some (.map K e)) (b : Nat) (l : List (α × Value)) (h : MapIs E w b l) (hm : a.eval m = .map (some b)) (key : α) (hk : a.eval k = E.enc key) (hok : E.ok key)
    (hK : ∀ ob, MapIs E (setBlk w b ob) b (adel l key) → wpList P ops Q rest a (setBlk w b ob)) : wpList P ops Q (o :: rest) a w := by
  refine wpList_plain hg fun K' hK' => ?_
  obtain ⟨ob, hrun, hmap⟩ := h.delete (rt := o.type) (tys := #[t, kt]) ht rfl key hok
  unfold Oper.wp execOp
  simp only [hop, resolve, invoke, builtin, bind, Sem.run_bind', pure, Sem.run, Result.andThen_ok, List.map_toArray, List.map_cons, List.map_nil, hm, hk, hrun]
  simp only [Oper.upon, hd, Act.put]
  exact hK' _ _ (hK _ hmap)

theorem ownsRow_setBlk {w : World} {base : Nat} {e : TypeId} {size n : Nat} {v : Value} {xs : List Value} (h : w.ownsRow base e size v n xs) {b : Nat} (hne : v.ownBlock ≠ some b) (o : Obj) : (setBlk w b o).ownsRow base e size v n xs :=
  h.kept (row := some b) ⟨rfl, rfl, rfl, by rw [size_setBlk]; exact Nat.le_refl _, fun k _ hk => setBlk_other (fun e => hk (by rw [e]))⟩ (.inr hne)
theorem ownsRow_only {S : Nat → Prop} {w w' : World} {base : Nat} {e : TypeId} {size n : Nat} {v : Value} {xs : List Value} (h : w.ownsRow base e size v n xs) (ho : Only S w w') (hne : ∀ k, v.ownBlock = some k → ¬ S k) : w'.ownsRow base e size v n xs := by
  obtain ⟨h1, h2⟩ := h
  refine ⟨h1, ?_⟩
  rcases h2 with h2 | ⟨g, cap, cur, hv, hg, hh, r⟩
  · exact .inl h2
  · exact .inr ⟨g, cap, cur, hv, hg, ho.blk hh (hne g (by rw [hv]; rfl)), r⟩
theorem MapIs.only {P : Program} {K : TypeId} {α : Type} {E : KE P K α} {S : Nat → Prop} {w w' : World} {b : Nat} {l : List (α × Value)} (h : MapIs E w b l) (ho : Only S w w') (hn : ¬ S b) : MapIs E w' b l :=
  h.kept (ho.block b h.lt hn)

theorem ne_of_elem {w : World} {a b : Nat} {c d : Array Value} {t u : TypeId} {f g : Nat × Nat} (h1 : w.heap[a]? = some (.cells c t f)) (h2 : w.heap[b]? = some (.cells d u g)) (h : t ≠ u) : a ≠ b := by
  rintro rfl
  rw [h1] at h2
  injection h2 with h2
  injection h2 with _ h3
  exact h h3
theorem MapIs.ne {P : Program} {K : TypeId} {α : Type} {E : KE P K α} {w : World} {b : Nat} {l : List (α × Value)} (h : MapIs E w b l) {a : Nat} {c : Array Value} {t : TypeId} {f : Nat × Nat} (h1 : w.heap[a]? = some (.cells c t f)) : a ≠ b := by
  rintro rfl
  obtain ⟨es, ck, h2, _⟩ := h
  rw [h1] at h2
  cases h2
end Go.Dm
