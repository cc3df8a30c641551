/- script: the library's contracts at hand: builders, numbers; what the package's variables hold. -/
import Derived.Test.YtcocmljollnpdaaDoorShelf
import Derived.Test.YtcocmljollnpdaaDoorSc0
import Derived.Test.YtcocmljollnpdaaDoorDmMem
import Derived.Test.YtcocmljollnpdaaDoorDmOwn
import Derived.Outline
import Derived.Lib.Hide
import Derived.Deep.DeepFit
import Derived.Maps.AppendAt
import Derived.Lib.AtoiErrMem
import Derived.Lib.AppendIntMem
namespace Go.Proofs.YtcocmljollnpdaaDoor
open Go Go.RowKit Go.Dm

/-! The builder's writers, laid by hand: the one command passes them over. -/
def ren167 : Go.Shelf.Ren := ⟨fun | 167 => 27 | 240 => 35 | 276 => 44 | n => n, fun | 9 => 9 | 4 => 4 | 0 => 0 | 20 => 20 | 72 => 62 | 70 => 59 | 37 => 60 | 75 => 65 | 164 => 81 | 5 => 5 | 80 => 67 | n => n, fun | n => n⟩
theorem lays167 : Go.Proofs.Lays.n167 Tryd.prog ren167 := {
  mixed := by kernel_rfl
  f167 := Tryd.func27.trans (congrArg some (by kernel_rfl))
  f240 := Tryd.func35.trans (congrArg some (by kernel_rfl))
  f276 := Tryd.func44.trans (congrArg some (by kernel_rfl))
  t0 := Tryd.underlying0
  a0 := Tryd.isAgg0
  z0 := Tryd.sizeOf0
  v0 := Tryd.zeroValue0
  t4 := Tryd.underlying4
  a4 := Tryd.isAgg4
  z4 := Tryd.sizeOf4
  v4 := Tryd.zeroValue4
  t5 := Tryd.underlying5
  a5 := Tryd.isAgg5
  z5 := Tryd.sizeOf5
  v5 := Tryd.zeroValue5
  t9 := Tryd.underlying9
  a9 := Tryd.isAgg9
  z9 := Tryd.sizeOf9
  v9 := Tryd.zeroValue9
  t20 := Tryd.underlying20
  a20 := Tryd.isAgg20
  z20 := Tryd.sizeOf20
  v20 := Tryd.zeroValue20
  t37 := Tryd.underlying60
  a37 := Tryd.isAgg60
  z37 := Tryd.sizeOf60
  v37 := Tryd.zeroValue60
  t70 := Tryd.underlying59
  a70 := Tryd.isAgg59
  z70 := Tryd.sizeOf59
  v70 := Tryd.zeroValue59
  t72 := Tryd.underlying62
  a72 := Tryd.isAgg62
  z72 := Tryd.sizeOf62
  v72 := Tryd.zeroValue62
  t75 := Tryd.underlying65
  a75 := Tryd.isAgg65
  z75 := Tryd.sizeOf65
  v75 := Tryd.zeroValue65
  t164 := Tryd.underlying81
  a164 := Tryd.isAgg81
  z164 := Tryd.sizeOf81
  v164 := Tryd.zeroValue81 }
theorem extra167 : Builder.Extra Tryd.prog ren167 := {
  sizeBuilder := by kernel_rfl
  liesBuilder := by kernel_rfl
  t5 := Tryd.underlying5
  a5 := Tryd.isAgg5
  z5 := Tryd.sizeOf5
  v5 := Tryd.zeroValue5
  infoByte := by kernel_rfl
  cellsByte := by kernel_rfl
  sizeByte := by kernel_rfl
  neB5 := by decide }

/-- A builder of one's own, holding bytes. -/
def Bld (B b : Nat) (l : List UInt8) (w : World) : Prop := Lib.IsBuilder 62 5 B b (Lib.byteCells l) w
def Str (l : List UInt8) : Value := .string ⟨l.toArray⟩

theorem writeByte_any {B b : Nat} {l : List UInt8} {w : World} (c : UInt8) {x : Int} (hx : x = (c.toNat : Int)) (h : Bld B b l w) (hl : l.length ≤ 1099511627776) (hB : B ≤ w.heap.size) :
    Calls Tryd.prog 27 #[.pointer (some ⟨b, 0, none⟩), .int .u8 x] w fun e w' => e = .returned .nilIface ∧ Bld B b (l ++ [c]) w' ∧ Below B w w' := by
  subst hx
  refine (Any.Builder_WriteByte lays167 extra167 B b (Lib.byteCells l) (c.toNat : Int) w h (by rw [Lib.byteCells_length]; omega) hB).mono ?_
  rintro e w' ⟨he, h1, hb⟩
  exact ⟨he, .inr (by rw [Lib.byteCells_append]; exact h1), hb⟩

theorem bldString_any {B b : Nat} {l : List UInt8} {w : World} (h : Bld B b l w) (hB : B ≤ w.heap.size) :
    Calls Tryd.prog 28 #[.pointer (some ⟨b, 0, none⟩)] w fun e w' => e = .returned (Str l) ∧ Below B w w' :=
  Tryd.Builder_String_any B b l w h hB

/-! What the package's variables hold. -/
def stepsT : List (List UInt8) := [[], [99, 97, 108, 108], [100, 101, 108, 105, 118, 101, 114], [108, 111, 115, 101], [116, 119, 105, 99, 101], [115, 112, 111, 105, 108], [116, 105, 99, 107], [102, 117, 115, 101], [111, 102, 102], [111, 110]]
def callsT : List (List UInt8) := [[], [98, 101, 103, 105, 110], [103, 101, 116], [112, 117, 116], [100, 114, 111, 112], [99, 111, 109, 109, 105, 116], [97, 98, 111, 114, 116]]

structure Env (w : World) : Prop where
  big : 10 ≤ w.heap.size
  len : ∃ m, w.cell? ⟨2, 0, none⟩ = some (.int .i64 m)
  pow : Lib.TabIs Tryd.prog w "internal/strconv.uint64pow10" .u64 Lib.pow10Tab
  syn : ∃ tp p, w.var? Tryd.prog "strconv.ErrSyntax" = some #[.iface tp p]
  rng : ∃ tp p, w.var? Tryd.prog "strconv.ErrRange" = some #[.iface tp p]
  steps : ∀ i l, stepsT[i]? = some l → w.cell? ⟨0, i, none⟩ = some (Str l)
  calls : ∀ i l, callsT[i]? = some l → w.cell? ⟨1, i, none⟩ = some (Str l)

theorem gn3 : Tryd.prog.globalNamed "internal/strconv.uint64pow10" = some 3 := by kernel_rfl
theorem gn6 : Tryd.prog.globalNamed "strconv.ErrSyntax" = some 6 := by kernel_rfl
theorem gn7 : Tryd.prog.globalNamed "strconv.ErrRange" = some 7 := by kernel_rfl
theorem var_same {w w' : World} {n : String} {g : Nat} (hg : Tryd.prog.globalNamed n = some g) (h : w'.heap[g]? = w.heap[g]?) : w'.var? Tryd.prog n = w.var? Tryd.prog n := by
  unfold World.var?
  rw [hg]
  simp only [Option.bind_some]
  rw [h]
theorem Env.only {S : Nat → Prop} {w w' : World} (h : Env w) (ho : Only S w w') (hs : ∀ c, S c → 10 ≤ c) : Env w' := by
  have hb : ∀ g, g < 10 → w'.heap[g]? = w.heap[g]? := fun g hg => ho.block g (Nat.lt_of_lt_of_le hg h.big) (fun hc => by have := hs g hc; omega)
  have hc : ∀ g i, g < 10 → w'.cell? ⟨g, i, none⟩ = w.cell? ⟨g, i, none⟩ := fun g i hg => World.cell?_of_block (w := w) (hb g hg)
  obtain ⟨m, hm⟩ := h.len
  obtain ⟨tp, p, hs⟩ := h.syn
  obtain ⟨tq, q, hr⟩ := h.rng
  exact ⟨Nat.le_trans h.big ho.size, ⟨m, (hc 2 0 (by omega)).trans hm⟩, (var_same gn3 (hb 3 (by omega))).trans h.pow, ⟨tp, p, (var_same gn6 (hb 6 (by omega))).trans hs⟩, ⟨tq, q, (var_same gn7 (hb 7 (by omega))).trans hr⟩,
    fun i l hl => (hc 0 i (by omega)).trans (h.steps i l hl), fun i l hl => (hc 1 i (by omega)).trans (h.calls i l hl)⟩
theorem Env.below {B : Nat} {w w' : World} (h : Env w) (ho : Below B w w') (hB : 10 ≤ B) : Env w' :=
  h.only (S := fun c => B ≤ c) ⟨ho.os, ho.tape, ho.output, ho.size, fun k _ hn => ho.block k (by omega)⟩ (fun c hc => Nat.le_trans hB hc)
theorem Env.new {w w' : World} (h : Env w) (ho : Only (fun _ => False) w w') : Env w' := h.only ho (fun _ hc => hc.elim)

/-! Numbers. -/
theorem itoa_any {n : Int} (h : I64 n) {w : World} (hE : Env w) :
    Calls Tryd.prog 18 #[.int .i64 n] w fun e w' => e = .returned (Str (Lib.itoa n)) ∧ Only (fun _ => False) w w' := by
  refine (Tryd.strconv_Itoa n h.1 h.2 w hE.pow).mono ?_
  rintro e w' ⟨he, k, os, rfl⟩
  exact ⟨he, Only.of_below (Lib.below_grow _ _ (Nat.le_refl _) k os)⟩

/-- What Atoi hands back. -/
def AtoiR (l : List UInt8) (w : World) (e : Ending) (w' : World) : Prop :=
  Only (fun _ => False) w w' ∧ ((∃ n, Lib.atoiAll l = .ok n ∧ e = .returned (.tuple #[.int .i64 n, .nilIface])) ∨ ((∀ n, Lib.atoiAll l ≠ .ok n) ∧ ∃ n t p, e = .returned (.tuple #[.int .i64 n, .iface t p])))
theorem atoi_any (s : ByteArray) (hs : s.size ≤ 1099511627776) {w : World} (hE : Env w) :
    Calls Tryd.prog 42 #[.string s] w (AtoiR s.data.toList w) := by
  rcases h : Lib.atoiAll s.data.toList with n | _ | _
  · refine (Tryd.strconv_Atoi_ok s (by omega) n h w).mono ?_
    rintro e w' ⟨he, hw⟩
    refine ⟨?_, .inl ⟨n, h, he⟩⟩
    rcases hw with rfl | ⟨t, rfl⟩
    · exact Only.refl _ _
    · exact Only.of_below (Lib.bytesWorld_below _ _ _)
  · obtain ⟨tp, p, hv⟩ := hE.syn
    refine Calls.mono (Any.strconv_Atoi_syntax_var Tryd.laysC172 s (by omega) h tp p w hv) ?_
    rintro e w' ⟨N, he, _, _, hb⟩
    exact ⟨Only.of_below hb, .inr ⟨fun n hn => (by rw [h] at hn; cases hn), _, _, _, he⟩⟩
  · obtain ⟨tp, p, hv⟩ := hE.rng
    refine (Tryd.strconv_Atoi_range_var s (by omega) h tp p w hv).mono ?_
    rintro e w' ⟨N, he, _, _, hb⟩
    exact ⟨Only.of_below hb, .inr ⟨fun n hn => (by rw [h] at hn; cases hn), _, _, _, he⟩⟩
end Go.Proofs.YtcocmljollnpdaaDoor
