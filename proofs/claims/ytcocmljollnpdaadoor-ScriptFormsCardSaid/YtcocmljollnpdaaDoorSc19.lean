/- script: ScriptForms. -/
import Derived.Test.YtcocmljollnpdaaDoorSc8
import Derived.Test.YtcocmljollnpdaaDoorSc11
import Derived.Test.YtcocmljollnpdaaDoorSc13
import Derived.Test.YtcocmljollnpdaaDoorSc15
import Derived.Test.YtcocmljollnpdaaDoorSc18
namespace Go.Proofs.YtcocmljollnpdaaDoor
open Go Go.RowKit Go.Dm
set_option linter.unusedVariables false
set_option linter.unusedSimpArgs false

theorem stepW_len {w0 : List UInt8} {r : List (List UInt8)} {k : Nat} (hk : kindL stepsT w0 = k) (h : k = 0 ∨ r.length + 1 ≠ countOf k) : stepW (w0 :: r) = none := by
  unfold stepW
  show (if kindL stepsT w0 = 0 ∨ (w0 :: r).length ≠ countOf (kindL stepsT w0) then none else _) = none
  rw [hk]
  exact if_pos h
theorem callW_none {ns : List Int} {ws : List (List UInt8)} (h : unhexL (ws.getD 5 []) = none) : callW ns ws = none := by
  unfold callW
  rw [h]
theorem sp_two {w0 r : List UInt8} (h : (32 : UInt8) ∉ w0) (n : Int) : sp 32 (w0 ++ 32 :: (Lib.itoa n ++ 32 :: r)) = w0 :: Lib.itoa n :: sp 32 r := by
  rw [sp_app h, sp_app (itoa32 n)]
theorem sp_one {w0 : List UInt8} (h : (32 : UInt8) ∉ w0) (n : Int) : sp 32 (w0 ++ 32 :: Lib.itoa n) = [w0, Lib.itoa n] := by
  rw [sp_app h, sp_word (itoa32 n)]
theorem bad0 : stepL ([] : List UInt8) = none := by
  have h : (stepL ([] : List UInt8)).isNone = true := by decide +kernel
  simpa using h
theorem bad1 : stepL [32] = none := by
  have h : (stepL [32]).isNone = true := by decide +kernel
  simpa using h
theorem bad2 : stepL [116, 105, 99, 107] = none := by
  have h : (stepL [116, 105, 99, 107]).isNone = true := by decide +kernel
  simpa using h
theorem bad3 {n : Int} (hn : I64 n) : stepL (([116, 105, 99, 107, 32] ++ Lib.itoa n) ++ [32, 49]) = none := by
  have e : sp 32 (([116, 105, 99, 107, 32] ++ Lib.itoa n) ++ [32, 49]) = [116, 105, 99, 107] :: Lib.itoa n :: [[49]] := by
    have h := show sp 32 ([116, 105, 99, 107] ++ 32 :: (Lib.itoa n ++ 32 :: [49])) = [116, 105, 99, 107] :: Lib.itoa n :: [[49]] from by rw [sp_two (by decide)]; rfl
    rw [← h]
    first | rfl | (congr 1; simp)
  unfold stepL
  rw [e]
  exact stepW_len (k := 6) (show kindL stepsT [116, 105, 99, 107] = _ by decide) (by simp [countOf])
theorem bad4 : stepL [116, 105, 99, 107, 32, 43, 49] = none := by
  have h : (stepL [116, 105, 99, 107, 32, 43, 49]).isNone = true := by decide +kernel
  simpa using h
theorem bad5 : stepL [116, 105, 99, 107, 32, 48, 49] = none := by
  have h : (stepL [116, 105, 99, 107, 32, 48, 49]).isNone = true := by decide +kernel
  simpa using h
theorem bad6 : stepL [116, 105, 99, 107, 32, 49, 32] = none := by
  have h : (stepL [116, 105, 99, 107, 32, 49, 32]).isNone = true := by decide +kernel
  simpa using h
theorem bad7 {n : Int} (hn : I64 n) : stepL ([84, 73, 67, 75, 32] ++ Lib.itoa n) = none := by
  have e : sp 32 ([84, 73, 67, 75, 32] ++ Lib.itoa n) = [[84, 73, 67, 75], Lib.itoa n] := by
    have h := show sp 32 ([84, 73, 67, 75] ++ 32 :: Lib.itoa n) = [[84, 73, 67, 75], Lib.itoa n] from sp_one (by decide) n
    rw [← h]
    first | rfl | (congr 1; simp)
  unfold stepL
  rw [e]
  exact stepW_len (k := 0) (show kindL stepsT [84, 73, 67, 75] = _ by decide) (by simp [countOf])
theorem bad8 {n : Int} (hn : I64 n) : stepL (([99, 97, 108, 108, 32] ++ Lib.itoa n) ++ [32, 49, 32, 49, 32, 98, 101, 103, 105, 110, 32, 45]) = none := by
  have e : sp 32 (([99, 97, 108, 108, 32] ++ Lib.itoa n) ++ [32, 49, 32, 49, 32, 98, 101, 103, 105, 110, 32, 45]) = [99, 97, 108, 108] :: Lib.itoa n :: [[49], [49], [98, 101, 103, 105, 110], [45]] := by
    have h := show sp 32 ([99, 97, 108, 108] ++ 32 :: (Lib.itoa n ++ 32 :: [49, 32, 49, 32, 98, 101, 103, 105, 110, 32, 45])) = [99, 97, 108, 108] :: Lib.itoa n :: [[49], [49], [98, 101, 103, 105, 110], [45]] from by rw [sp_two (by decide)]; rfl
    rw [← h]
    first | rfl | (congr 1; simp)
  unfold stepL
  rw [e]
  exact stepW_len (k := 1) (show kindL stepsT [99, 97, 108, 108] = _ by decide) (by simp [countOf])
theorem bad9 {n : Int} (hn : I64 n) : stepL (([99, 97, 108, 108, 32] ++ Lib.itoa n) ++ [32, 49, 32, 49, 32, 115, 116, 97, 114, 116, 32, 45, 32, 45]) = none := by
  have e : sp 32 (([99, 97, 108, 108, 32] ++ Lib.itoa n) ++ [32, 49, 32, 49, 32, 115, 116, 97, 114, 116, 32, 45, 32, 45]) = [99, 97, 108, 108] :: Lib.itoa n :: [[49], [49], [115, 116, 97, 114, 116], [45], [45]] := by
    have h := show sp 32 ([99, 97, 108, 108] ++ 32 :: (Lib.itoa n ++ 32 :: [49, 32, 49, 32, 115, 116, 97, 114, 116, 32, 45, 32, 45])) = [99, 97, 108, 108] :: Lib.itoa n :: [[49], [49], [115, 116, 97, 114, 116], [45], [45]] from by rw [sp_two (by decide)]; rfl
    rw [← h]
    first | rfl | (congr 1; simp)
  unfold stepL
  rw [e]
  have hd : numL [49] = some 1 := by decide +kernel
  have hnum : numsL [Lib.itoa n, [49], [49]] = some [n, 1, 1] := by simp [numsL, num_itoa n hn, hd]
  refine Eq.trans (stepW_of (k := 1) (n := 7) (show kindL stepsT [99, 97, 108, 108] = _ by decide) (by decide) rfl rfl hnum) ?_
  unfold stepN
  rw [if_pos rfl]
  show callW _ _ = none
  unfold callW
  rfl
theorem bad10 {n : Int} (hn : I64 n) : stepL (([99, 97, 108, 108, 32] ++ Lib.itoa n) ++ [32, 49, 32, 49, 32, 112, 117, 116, 32, 97, 32, 45]) = none := by
  have e : sp 32 (([99, 97, 108, 108, 32] ++ Lib.itoa n) ++ [32, 49, 32, 49, 32, 112, 117, 116, 32, 97, 32, 45]) = [99, 97, 108, 108] :: Lib.itoa n :: [[49], [49], [112, 117, 116], [97], [45]] := by
    have h := show sp 32 ([99, 97, 108, 108] ++ 32 :: (Lib.itoa n ++ 32 :: [49, 32, 49, 32, 112, 117, 116, 32, 97, 32, 45])) = [99, 97, 108, 108] :: Lib.itoa n :: [[49], [49], [112, 117, 116], [97], [45]] from by rw [sp_two (by decide)]; rfl
    rw [← h]
    first | rfl | (congr 1; simp)
  unfold stepL
  rw [e]
  have hd : numL [49] = some 1 := by decide +kernel
  have hnum : numsL [Lib.itoa n, [49], [49]] = some [n, 1, 1] := by simp [numsL, num_itoa n hn, hd]
  refine Eq.trans (stepW_of (k := 1) (n := 7) (show kindL stepsT [99, 97, 108, 108] = _ by decide) (by decide) rfl rfl hnum) ?_
  unfold stepN
  rw [if_pos rfl]
  have hu : unhexL [97] = none := by decide +kernel
  exact callW_none hu
theorem bad11 {n : Int} (hn : I64 n) : stepL (([99, 97, 108, 108, 32] ++ Lib.itoa n) ++ [32, 49, 32, 49, 32, 112, 117, 116, 32, 54, 32, 45]) = none := by
  have e : sp 32 (([99, 97, 108, 108, 32] ++ Lib.itoa n) ++ [32, 49, 32, 49, 32, 112, 117, 116, 32, 54, 32, 45]) = [99, 97, 108, 108] :: Lib.itoa n :: [[49], [49], [112, 117, 116], [54], [45]] := by
    have h := show sp 32 ([99, 97, 108, 108] ++ 32 :: (Lib.itoa n ++ 32 :: [49, 32, 49, 32, 112, 117, 116, 32, 54, 32, 45])) = [99, 97, 108, 108] :: Lib.itoa n :: [[49], [49], [112, 117, 116], [54], [45]] from by rw [sp_two (by decide)]; rfl
    rw [← h]
    first | rfl | (congr 1; simp)
  unfold stepL
  rw [e]
  have hd : numL [49] = some 1 := by decide +kernel
  have hnum : numsL [Lib.itoa n, [49], [49]] = some [n, 1, 1] := by simp [numsL, num_itoa n hn, hd]
  refine Eq.trans (stepW_of (k := 1) (n := 7) (show kindL stepsT [99, 97, 108, 108] = _ by decide) (by decide) rfl rfl hnum) ?_
  unfold stepN
  rw [if_pos rfl]
  have hu : unhexL [54] = none := by decide +kernel
  exact callW_none hu
theorem bad12 {n : Int} (hn : I64 n) : stepL (([99, 97, 108, 108, 32] ++ Lib.itoa n) ++ [32, 49, 32, 49, 32, 112, 117, 116, 32, 54, 65, 32, 45]) = none := by
  have e : sp 32 (([99, 97, 108, 108, 32] ++ Lib.itoa n) ++ [32, 49, 32, 49, 32, 112, 117, 116, 32, 54, 65, 32, 45]) = [99, 97, 108, 108] :: Lib.itoa n :: [[49], [49], [112, 117, 116], [54, 65], [45]] := by
    have h := show sp 32 ([99, 97, 108, 108] ++ 32 :: (Lib.itoa n ++ 32 :: [49, 32, 49, 32, 112, 117, 116, 32, 54, 65, 32, 45])) = [99, 97, 108, 108] :: Lib.itoa n :: [[49], [49], [112, 117, 116], [54, 65], [45]] from by rw [sp_two (by decide)]; rfl
    rw [← h]
    first | rfl | (congr 1; simp)
  unfold stepL
  rw [e]
  have hd : numL [49] = some 1 := by decide +kernel
  have hnum : numsL [Lib.itoa n, [49], [49]] = some [n, 1, 1] := by simp [numsL, num_itoa n hn, hd]
  refine Eq.trans (stepW_of (k := 1) (n := 7) (show kindL stepsT [99, 97, 108, 108] = _ by decide) (by decide) rfl rfl hnum) ?_
  unfold stepN
  rw [if_pos rfl]
  have hu : unhexL [54, 65] = none := by decide +kernel
  exact callW_none hu
theorem bad13 {n : Int} (hn : I64 n) : stepL (([111, 110, 32] ++ Lib.itoa n) ++ [32, 48, 32, 48]) = none := by
  have e : sp 32 (([111, 110, 32] ++ Lib.itoa n) ++ [32, 48, 32, 48]) = [111, 110] :: Lib.itoa n :: [[48], [48]] := by
    have h := show sp 32 ([111, 110] ++ 32 :: (Lib.itoa n ++ 32 :: [48, 32, 48])) = [111, 110] :: Lib.itoa n :: [[48], [48]] from by rw [sp_two (by decide)]; rfl
    rw [← h]
    first | rfl | (congr 1; simp)
  unfold stepL
  rw [e]
  exact stepW_len (k := 9) (show kindL stepsT [111, 110] = _ by decide) (by simp [countOf])
theorem bad14 {n : Int} (hn : I64 n) : stepL (([111, 110, 32] ++ Lib.itoa n) ++ [32, 48, 32, 48, 32, 50]) = none := by
  have e : sp 32 (([111, 110, 32] ++ Lib.itoa n) ++ [32, 48, 32, 48, 32, 50]) = [111, 110] :: Lib.itoa n :: [[48], [48], [50]] := by
    have h := show sp 32 ([111, 110] ++ 32 :: (Lib.itoa n ++ 32 :: [48, 32, 48, 32, 50])) = [111, 110] :: Lib.itoa n :: [[48], [48], [50]] from by rw [sp_two (by decide)]; rfl
    rw [← h]
    first | rfl | (congr 1; simp)
  unfold stepL
  rw [e]
  have hd : numL [48] = some 0 := by decide +kernel
  have hnum : numsL [Lib.itoa n, [48], [48]] = some [n, 0, 0] := by simp [numsL, num_itoa n hn, hd]
  refine Eq.trans (stepW_of (k := 9) (n := 5) (show kindL stepsT [111, 110] = _ by decide) (by decide) rfl rfl hnum) ?_
  unfold stepN
  rw [if_neg (by decide), if_pos rfl]
  have hu : unbitsL [50] = none := by decide +kernel
  show (unbitsL [50]).map _ = none
  rw [hu]; rfl
theorem bad15 {n : Int} (hn : I64 n) : stepL (([111, 110, 32] ++ Lib.itoa n) ++ [32, 48, 32, 48, 32]) = none := by
  have e : sp 32 (([111, 110, 32] ++ Lib.itoa n) ++ [32, 48, 32, 48, 32]) = [111, 110] :: Lib.itoa n :: [[48], [48], []] := by
    have h := show sp 32 ([111, 110] ++ 32 :: (Lib.itoa n ++ 32 :: [48, 32, 48, 32])) = [111, 110] :: Lib.itoa n :: [[48], [48], []] from by rw [sp_two (by decide)]; rfl
    rw [← h]
    first | rfl | (congr 1; simp)
  unfold stepL
  rw [e]
  have hd : numL [48] = some 0 := by decide +kernel
  have hnum : numsL [Lib.itoa n, [48], [48]] = some [n, 0, 0] := by simp [numsL, num_itoa n hn, hd]
  refine Eq.trans (stepW_of (k := 9) (n := 5) (show kindL stepsT [111, 110] = _ by decide) (by decide) rfl rfl hnum) ?_
  unfold stepN
  rw [if_neg (by decide), if_pos rfl]
  have hu : unbitsL ([] : List UInt8) = none := by decide +kernel
  show (unbitsL ([] : List UInt8)).map _ = none
  rw [hu]; rfl
theorem bad16 {n : Int} (hn : I64 n) : stepL ([102, 117, 115, 101, 32] ++ Lib.itoa n) = none := by
  have e : sp 32 ([102, 117, 115, 101, 32] ++ Lib.itoa n) = [[102, 117, 115, 101], Lib.itoa n] := by
    have h := show sp 32 ([102, 117, 115, 101] ++ 32 :: Lib.itoa n) = [[102, 117, 115, 101], Lib.itoa n] from sp_one (by decide) n
    rw [← h]
    first | rfl | (congr 1; simp)
  unfold stepL
  rw [e]
  exact stepW_len (k := 7) (show kindL stepsT [102, 117, 115, 101] = _ by decide) (by simp [countOf])
theorem bad17 : stepL [100, 101, 108, 105, 118, 101, 114, 32, 120] = none := by
  have h : (stepL [100, 101, 108, 105, 118, 101, 114, 32, 120]).isNone = true := by decide +kernel
  simpa using h
theorem bad18 : stepL [111, 102, 102, 32, 49, 46, 48] = none := by
  have h : (stepL [111, 102, 102, 32, 49, 46, 48]).isNone = true := by decide +kernel
  simpa using h
theorem bad19 : stepL [100, 101, 108, 105, 118, 101, 114, 32, 57, 57, 57, 57, 57, 57, 57, 57, 57, 57, 57, 57, 57, 57, 57, 57, 57, 57, 57, 57] = none := by
  have h : (stepL [100, 101, 108, 105, 118, 101, 114, 32, 57, 57, 57, 57, 57, 57, 57, 57, 57, 57, 57, 57, 57, 57, 57, 57, 57, 57, 57, 57]).isNone = true := by decide +kernel
  simpa using h
def bads (d : ByteArray) : List ByteArray := [⟨#[]⟩, ⟨#[32]⟩, ⟨#[116, 105, 99, 107]⟩, ⟨#[116, 105, 99, 107, 32]⟩ ++ d ++ ⟨#[32, 49]⟩, ⟨#[116, 105, 99, 107, 32, 43, 49]⟩, ⟨#[116, 105, 99, 107, 32, 48, 49]⟩, ⟨#[116, 105, 99, 107, 32, 49, 32]⟩, ⟨#[84, 73, 67, 75, 32]⟩ ++ d, ⟨#[99, 97, 108, 108, 32]⟩ ++ d ++ ⟨#[32, 49, 32, 49, 32, 98, 101, 103, 105, 110, 32, 45]⟩, ⟨#[99, 97, 108, 108, 32]⟩ ++ d ++ ⟨#[32, 49, 32, 49, 32, 115, 116, 97, 114, 116, 32, 45, 32, 45]⟩, ⟨#[99, 97, 108, 108, 32]⟩ ++ d ++ ⟨#[32, 49, 32, 49, 32, 112, 117, 116, 32, 97, 32, 45]⟩, ⟨#[99, 97, 108, 108, 32]⟩ ++ d ++ ⟨#[32, 49, 32, 49, 32, 112, 117, 116, 32, 54, 32, 45]⟩, ⟨#[99, 97, 108, 108, 32]⟩ ++ d ++ ⟨#[32, 49, 32, 49, 32, 112, 117, 116, 32, 54, 65, 32, 45]⟩, ⟨#[111, 110, 32]⟩ ++ d ++ ⟨#[32, 48, 32, 48]⟩, ⟨#[111, 110, 32]⟩ ++ d ++ ⟨#[32, 48, 32, 48, 32, 50]⟩, ⟨#[111, 110, 32]⟩ ++ d ++ ⟨#[32, 48, 32, 48, 32]⟩, ⟨#[102, 117, 115, 101, 32]⟩ ++ d, ⟨#[100, 101, 108, 105, 118, 101, 114, 32, 120]⟩, ⟨#[111, 102, 102, 32, 49, 46, 48]⟩, ⟨#[100, 101, 108, 105, 118, 101, 114, 32, 57, 57, 57, 57, 57, 57, 57, 57, 57, 57, 57, 57, 57, 57, 57, 57, 57, 57, 57, 57]⟩]
theorem bads_none {d : ByteArray} {n : Int} (hn : I64 n) (hd : d.data.toList = Lib.itoa n) : ∀ x ∈ bads d, stepL x.data.toList = none := by
  intro x hx
  unfold bads at hx
  simp only [List.mem_cons, List.not_mem_nil, or_false] at hx
  rcases hx with rfl | rfl | rfl | rfl | rfl | rfl | rfl | rfl | rfl | rfl | rfl | rfl | rfl | rfl | rfl | rfl | rfl | rfl | rfl | rfl
  · exact bad0
  · exact bad1
  · exact bad2
  · have h := bad3 hn
    simpa [hd] using h
  · exact bad4
  · exact bad5
  · exact bad6
  · have h := bad7 hn
    simpa [hd] using h
  · have h := bad8 hn
    simpa [hd] using h
  · have h := bad9 hn
    simpa [hd] using h
  · have h := bad10 hn
    simpa [hd] using h
  · have h := bad11 hn
    simpa [hd] using h
  · have h := bad12 hn
    simpa [hd] using h
  · have h := bad13 hn
    simpa [hd] using h
  · have h := bad14 hn
    simpa [hd] using h
  · have h := bad15 hn
    simpa [hd] using h
  · have h := bad16 hn
    simpa [hd] using h
  · exact bad17
  · exact bad18
  · exact bad19
theorem bads_size {d : ByteArray} (hd : d.size ≤ 21) : ∀ x ∈ bads d, x.size ≤ 100 := by
  have h1 : ∀ b : ByteArray, b.size = b.data.toList.length := fun b => by simp
  intro x hx
  unfold bads at hx
  simp only [List.mem_cons, List.not_mem_nil, or_false] at hx
  rcases hx with rfl | rfl | rfl | rfl | rfl | rfl | rfl | rfl | rfl | rfl | rfl | rfl | rfl | rfl | rfl | rfl | rfl | rfl | rfl | rfl
  all_goals (rw [h1]; first | decide | (simp; omega) | simp)
theorem bads_end {d : ByteArray} {n : Int} (hd : d.data.toList = Lib.itoa n) : ∀ x ∈ bads d, (10 : UInt8) ∉ x.data.toList := by
  have h10 := itoa10 n
  intro x hx
  unfold bads at hx
  simp only [List.mem_cons, List.not_mem_nil, or_false] at hx
  rcases hx with rfl | rfl | rfl | rfl | rfl | rfl | rfl | rfl | rfl | rfl | rfl | rfl | rfl | rfl | rfl | rfl | rfl | rfl | rfl | rfl
  all_goals simp [hd, h10]
theorem sz (b : ByteArray) : b.size = b.data.toList.length := by simp
theorem off_step {n : Int} (hn : I64 n) : stepL ([111, 102, 102, 32] ++ Lib.itoa n) = some ⟨8, n, 0, 0, 0, [], [], 0, 0, [], 0⟩ := by
  have z : I64 0 := by simp [I64]
  have z8 : I64 8 := by simp [I64]
  exact step_line (s := ⟨8, n, 0, 0, 0, [], [], 0, 0, [], 0⟩) ⟨z8, hn, z, z, z, z, z, z⟩ (by
    show some (jn 32 [[111, 102, 102], Lib.itoa n]) = _
    rw [jn_cons, jn_one]; rfl)
theorem parse_bad {l x : List UInt8} (h1 : (10 : UInt8) ∉ l) (h2 : (10 : UInt8) ∉ x) (hx : stepL x = none) : parseL (l ++ 10 :: (x ++ [10])) = none := by
  have e : sp 10 (l ++ 10 :: (x ++ [10])) = [l, x, []] := by
    rw [sp_app h1, sp_app h2]; rfl
  unfold parseL
  rw [e]
  show (if ([] : List UInt8) ≠ [] then none else allSteps [l, x]) = none
  rw [if_neg (by simp)]
  exact allSteps_none _ x (by simp) hx
set_option maxHeartbeats 1000000 in
set_option maxRecDepth 100000 in
theorem bs20 {w : World} (x0 x1 x2 x3 x4 x5 x6 x7 x8 x9 x10 x11 x12 x13 x14 x15 x16 x17 x18 x19 : ByteArray) : (Instr.buildSlice 45 20 #[(0, .string x0), (1, .string x1), (2, .string x2), (3, .string x3), (4, .string x4), (5, .string x5), (6, .string x6), (7, .string x7), (8, .string x8), (9, .string x9), (10, .string x10), (11, .string x11), (12, .string x12), (13, .string x13), (14, .string x14), (15, .string x15), (16, .string x16), (17, .string x17), (18, .string x18), (19, .string x19)]).run Tryd.prog w = .ok (.slice (some ⟨w.heap.size, 0, none⟩) 20 20) (w.alloc (.cells #[.string x0, .string x1, .string x2, .string x3, .string x4, .string x5, .string x6, .string x7, .string x8, .string x9, .string x10, .string x11, .string x12, .string x13, .string x14, .string x15, .string x16, .string x17, .string x18, .string x19] 9)) := by
  simp [go_sem]
set_option maxHeartbeats 16000000 in
set_option maxRecDepth 100000 in
theorem forms_walk {which n : Int} (hw : I64 which) (hn : I64 n) {w : World} (hE : Env w) :
    Calls Tryd.prog 6 #[.int .i64 which, .int .i64 n] w fun e w' => e = .returned (.bool true) ∧ Only (fun _ => False) w w' := by
  have HE := Lib.hid hE
  have HN := Lib.hid hn
  have zn := itoa_le hn
  clear hE hn
  go_enter Tryd.func6, Tryd.ntmps6
  go_wp2_with fail
  refine (head_any HE.out).mono ?_
  rintro e w1 ⟨rfl, ho1⟩
  have HE1 := Lib.hid (HE.out.new ho1)
  go_wp2_with fail
  refine (itoa_any HN.out HE1.out).mono ?_
  rintro e w2 ⟨rfl, ho2⟩
  obtain ⟨d, hd1, hd2⟩ := str_var (Lib.itoa n)
  rw [hd2]
  have Hd := Lib.hid hd1
  have hds : d.size ≤ 21 := by
    have h1 : d.size = d.data.toList.length := by simp
    rw [h1, hd1]; exact zn
  clear hd1 hd2
  have HB := Lib.hid (bads_none HN.out Hd.out)
  have HBS := Lib.hid (bads_size hds)
  have HBE := Lib.hid (bads_end Hd.out)
  have HO2 := Lib.hid (ho1.trans' ho2)
  have HE2 := Lib.hid (HE1.out.new ho2)
  clear ho1 ho2 HE1
  have hj0 : 0 ≤ (IntKind.u64.wrap which).tmod 20 ∧ (IntKind.u64.wrap which).tmod 20 < 20 := by
    have h : 0 ≤ IntKind.u64.wrap which := by
      unfold IntKind.wrap
      simp [IntKind.signed, IntKind.bits]
      omega
    exact ⟨Int.tmod_nonneg _ h, Int.tmod_lt_of_pos _ (by decide)⟩
  obtain ⟨j, hj⟩ : ∃ j : Nat, (IntKind.u64.wrap which).tmod 20 = (j : Int) := ⟨((IntKind.u64.wrap which).tmod 20).toNat, by omega⟩
  rw [hj] at hj0
  have hj2 : wrap64 ((IntKind.u64.wrap which).tmod 20) = (j : Int) := by
    rw [hj]
    unfold wrap64
    omega
  have hjl : j < (bads d).length := by show j < 20; omega
  have HX := Lib.hid (show (bads d)[j]? = some (bads d)[j] from List.getElem?_eq_getElem hjl)
  have hxm := List.getElem_mem hjl
  generalize (bads d)[j] = x at *
  have hx1 := Lib.hid (HB.out x hxm)
  have hx2 := HBS.out x hxm
  have hx3 := Lib.hid (HBE.out x hxm)
  clear hxm hjl HB HBS HBE hj
  have q0 := hj0.1
  have q1 := hj0.2
  clear hj0
  go_upto_region 5 with (refine wpl_build1 rfl _ rfl rfl (vals := #[(0, .string (⟨#[]⟩)), (1, .string (⟨#[32]⟩)), (2, .string (⟨#[116, 105, 99, 107]⟩)), (3, .string (⟨#[116, 105, 99, 107, 32]⟩ ++ d ++ ⟨#[32, 49]⟩)), (4, .string (⟨#[116, 105, 99, 107, 32, 43, 49]⟩)), (5, .string (⟨#[116, 105, 99, 107, 32, 48, 49]⟩)), (6, .string (⟨#[116, 105, 99, 107, 32, 49, 32]⟩)), (7, .string (⟨#[84, 73, 67, 75, 32]⟩ ++ d)), (8, .string (⟨#[99, 97, 108, 108, 32]⟩ ++ d ++ ⟨#[32, 49, 32, 49, 32, 98, 101, 103, 105, 110, 32, 45]⟩)), (9, .string (⟨#[99, 97, 108, 108, 32]⟩ ++ d ++ ⟨#[32, 49, 32, 49, 32, 115, 116, 97, 114, 116, 32, 45, 32, 45]⟩)), (10, .string (⟨#[99, 97, 108, 108, 32]⟩ ++ d ++ ⟨#[32, 49, 32, 49, 32, 112, 117, 116, 32, 97, 32, 45]⟩)), (11, .string (⟨#[99, 97, 108, 108, 32]⟩ ++ d ++ ⟨#[32, 49, 32, 49, 32, 112, 117, 116, 32, 54, 32, 45]⟩)), (12, .string (⟨#[99, 97, 108, 108, 32]⟩ ++ d ++ ⟨#[32, 49, 32, 49, 32, 112, 117, 116, 32, 54, 65, 32, 45]⟩)), (13, .string (⟨#[111, 110, 32]⟩ ++ d ++ ⟨#[32, 48, 32, 48]⟩)), (14, .string (⟨#[111, 110, 32]⟩ ++ d ++ ⟨#[32, 48, 32, 48, 32, 50]⟩)), (15, .string (⟨#[111, 110, 32]⟩ ++ d ++ ⟨#[32, 48, 32, 48, 32]⟩)), (16, .string (⟨#[102, 117, 115, 101, 32]⟩ ++ d)), (17, .string (⟨#[100, 101, 108, 105, 118, 101, 114, 32, 120]⟩)), (18, .string (⟨#[111, 102, 102, 32, 49, 46, 48]⟩)), (19, .string (⟨#[100, 101, 108, 105, 118, 101, 114, 32, 57, 57, 57, 57, 57, 57, 57, 57, 57, 57, 57, 57, 57, 57, 57, 57, 57, 57, 57, 57]⟩))]) (by simp [Act.eval, Act.put]) (bs20 _ _ _ _ _ _ _ _ _ _ _ _ _ _ _ _ _ _ _ _) ?_)
  have ho3 : Only (fun _ => False) w (w2.alloc (Obj.cells #[(Value.string (⟨#[]⟩)), .string (⟨#[32]⟩), .string (⟨#[116, 105, 99, 107]⟩), .string (⟨#[116, 105, 99, 107, 32]⟩ ++ d ++ ⟨#[32, 49]⟩), .string (⟨#[116, 105, 99, 107, 32, 43, 49]⟩), .string (⟨#[116, 105, 99, 107, 32, 48, 49]⟩), .string (⟨#[116, 105, 99, 107, 32, 49, 32]⟩), .string (⟨#[84, 73, 67, 75, 32]⟩ ++ d), .string (⟨#[99, 97, 108, 108, 32]⟩ ++ d ++ ⟨#[32, 49, 32, 49, 32, 98, 101, 103, 105, 110, 32, 45]⟩), .string (⟨#[99, 97, 108, 108, 32]⟩ ++ d ++ ⟨#[32, 49, 32, 49, 32, 115, 116, 97, 114, 116, 32, 45, 32, 45]⟩), .string (⟨#[99, 97, 108, 108, 32]⟩ ++ d ++ ⟨#[32, 49, 32, 49, 32, 112, 117, 116, 32, 97, 32, 45]⟩), .string (⟨#[99, 97, 108, 108, 32]⟩ ++ d ++ ⟨#[32, 49, 32, 49, 32, 112, 117, 116, 32, 54, 32, 45]⟩), .string (⟨#[99, 97, 108, 108, 32]⟩ ++ d ++ ⟨#[32, 49, 32, 49, 32, 112, 117, 116, 32, 54, 65, 32, 45]⟩), .string (⟨#[111, 110, 32]⟩ ++ d ++ ⟨#[32, 48, 32, 48]⟩), .string (⟨#[111, 110, 32]⟩ ++ d ++ ⟨#[32, 48, 32, 48, 32, 50]⟩), .string (⟨#[111, 110, 32]⟩ ++ d ++ ⟨#[32, 48, 32, 48, 32]⟩), .string (⟨#[102, 117, 115, 101, 32]⟩ ++ d), .string (⟨#[100, 101, 108, 105, 118, 101, 114, 32, 120]⟩), .string (⟨#[111, 102, 102, 32, 49, 46, 48]⟩), .string (⟨#[100, 101, 108, 105, 118, 101, 114, 32, 57, 57, 57, 57, 57, 57, 57, 57, 57, 57, 57, 57, 57, 57, 57, 57, 57, 57, 57, 57]⟩)] 9)) := HO2.out.alloc _
  have k3 : (w2.alloc (Obj.cells #[(Value.string (⟨#[]⟩)), .string (⟨#[32]⟩), .string (⟨#[116, 105, 99, 107]⟩), .string (⟨#[116, 105, 99, 107, 32]⟩ ++ d ++ ⟨#[32, 49]⟩), .string (⟨#[116, 105, 99, 107, 32, 43, 49]⟩), .string (⟨#[116, 105, 99, 107, 32, 48, 49]⟩), .string (⟨#[116, 105, 99, 107, 32, 49, 32]⟩), .string (⟨#[84, 73, 67, 75, 32]⟩ ++ d), .string (⟨#[99, 97, 108, 108, 32]⟩ ++ d ++ ⟨#[32, 49, 32, 49, 32, 98, 101, 103, 105, 110, 32, 45]⟩), .string (⟨#[99, 97, 108, 108, 32]⟩ ++ d ++ ⟨#[32, 49, 32, 49, 32, 115, 116, 97, 114, 116, 32, 45, 32, 45]⟩), .string (⟨#[99, 97, 108, 108, 32]⟩ ++ d ++ ⟨#[32, 49, 32, 49, 32, 112, 117, 116, 32, 97, 32, 45]⟩), .string (⟨#[99, 97, 108, 108, 32]⟩ ++ d ++ ⟨#[32, 49, 32, 49, 32, 112, 117, 116, 32, 54, 32, 45]⟩), .string (⟨#[99, 97, 108, 108, 32]⟩ ++ d ++ ⟨#[32, 49, 32, 49, 32, 112, 117, 116, 32, 54, 65, 32, 45]⟩), .string (⟨#[111, 110, 32]⟩ ++ d ++ ⟨#[32, 48, 32, 48]⟩), .string (⟨#[111, 110, 32]⟩ ++ d ++ ⟨#[32, 48, 32, 48, 32, 50]⟩), .string (⟨#[111, 110, 32]⟩ ++ d ++ ⟨#[32, 48, 32, 48, 32]⟩), .string (⟨#[102, 117, 115, 101, 32]⟩ ++ d), .string (⟨#[100, 101, 108, 105, 118, 101, 114, 32, 120]⟩), .string (⟨#[111, 102, 102, 32, 49, 46, 48]⟩), .string (⟨#[100, 101, 108, 105, 118, 101, 114, 32, 57, 57, 57, 57, 57, 57, 57, 57, 57, 57, 57, 57, 57, 57, 57, 57, 57, 57, 57, 57]⟩)] 9)).heap[w2.heap.size]? = some (.cells #[(Value.string (⟨#[]⟩)), .string (⟨#[32]⟩), .string (⟨#[116, 105, 99, 107]⟩), .string (⟨#[116, 105, 99, 107, 32]⟩ ++ d ++ ⟨#[32, 49]⟩), .string (⟨#[116, 105, 99, 107, 32, 43, 49]⟩), .string (⟨#[116, 105, 99, 107, 32, 48, 49]⟩), .string (⟨#[116, 105, 99, 107, 32, 49, 32]⟩), .string (⟨#[84, 73, 67, 75, 32]⟩ ++ d), .string (⟨#[99, 97, 108, 108, 32]⟩ ++ d ++ ⟨#[32, 49, 32, 49, 32, 98, 101, 103, 105, 110, 32, 45]⟩), .string (⟨#[99, 97, 108, 108, 32]⟩ ++ d ++ ⟨#[32, 49, 32, 49, 32, 115, 116, 97, 114, 116, 32, 45, 32, 45]⟩), .string (⟨#[99, 97, 108, 108, 32]⟩ ++ d ++ ⟨#[32, 49, 32, 49, 32, 112, 117, 116, 32, 97, 32, 45]⟩), .string (⟨#[99, 97, 108, 108, 32]⟩ ++ d ++ ⟨#[32, 49, 32, 49, 32, 112, 117, 116, 32, 54, 32, 45]⟩), .string (⟨#[99, 97, 108, 108, 32]⟩ ++ d ++ ⟨#[32, 49, 32, 49, 32, 112, 117, 116, 32, 54, 65, 32, 45]⟩), .string (⟨#[111, 110, 32]⟩ ++ d ++ ⟨#[32, 48, 32, 48]⟩), .string (⟨#[111, 110, 32]⟩ ++ d ++ ⟨#[32, 48, 32, 48, 32, 50]⟩), .string (⟨#[111, 110, 32]⟩ ++ d ++ ⟨#[32, 48, 32, 48, 32]⟩), .string (⟨#[102, 117, 115, 101, 32]⟩ ++ d), .string (⟨#[100, 101, 108, 105, 118, 101, 114, 32, 120]⟩), .string (⟨#[111, 102, 102, 32, 49, 46, 48]⟩), .string (⟨#[100, 101, 108, 105, 118, 101, 114, 32, 57, 57, 57, 57, 57, 57, 57, 57, 57, 57, 57, 57, 57, 57, 57, 57, 57, 57, 57, 57]⟩)] 9 (0, 0)) := blk_alloc_new
  have cj : (w2.alloc (Obj.cells #[(Value.string (⟨#[]⟩)), .string (⟨#[32]⟩), .string (⟨#[116, 105, 99, 107]⟩), .string (⟨#[116, 105, 99, 107, 32]⟩ ++ d ++ ⟨#[32, 49]⟩), .string (⟨#[116, 105, 99, 107, 32, 43, 49]⟩), .string (⟨#[116, 105, 99, 107, 32, 48, 49]⟩), .string (⟨#[116, 105, 99, 107, 32, 49, 32]⟩), .string (⟨#[84, 73, 67, 75, 32]⟩ ++ d), .string (⟨#[99, 97, 108, 108, 32]⟩ ++ d ++ ⟨#[32, 49, 32, 49, 32, 98, 101, 103, 105, 110, 32, 45]⟩), .string (⟨#[99, 97, 108, 108, 32]⟩ ++ d ++ ⟨#[32, 49, 32, 49, 32, 115, 116, 97, 114, 116, 32, 45, 32, 45]⟩), .string (⟨#[99, 97, 108, 108, 32]⟩ ++ d ++ ⟨#[32, 49, 32, 49, 32, 112, 117, 116, 32, 97, 32, 45]⟩), .string (⟨#[99, 97, 108, 108, 32]⟩ ++ d ++ ⟨#[32, 49, 32, 49, 32, 112, 117, 116, 32, 54, 32, 45]⟩), .string (⟨#[99, 97, 108, 108, 32]⟩ ++ d ++ ⟨#[32, 49, 32, 49, 32, 112, 117, 116, 32, 54, 65, 32, 45]⟩), .string (⟨#[111, 110, 32]⟩ ++ d ++ ⟨#[32, 48, 32, 48]⟩), .string (⟨#[111, 110, 32]⟩ ++ d ++ ⟨#[32, 48, 32, 48, 32, 50]⟩), .string (⟨#[111, 110, 32]⟩ ++ d ++ ⟨#[32, 48, 32, 48, 32]⟩), .string (⟨#[102, 117, 115, 101, 32]⟩ ++ d), .string (⟨#[100, 101, 108, 105, 118, 101, 114, 32, 120]⟩), .string (⟨#[111, 102, 102, 32, 49, 46, 48]⟩), .string (⟨#[100, 101, 108, 105, 118, 101, 114, 32, 57, 57, 57, 57, 57, 57, 57, 57, 57, 57, 57, 57, 57, 57, 57, 57, 57, 57, 57, 57]⟩)] 9)).cell? ⟨w2.heap.size, j, none⟩ = some (.string x) := by
    rw [cell_of_blk k3 j]
    have h := HX.out
    have e : (#[(Value.string (⟨#[]⟩)), .string (⟨#[32]⟩), .string (⟨#[116, 105, 99, 107]⟩), .string (⟨#[116, 105, 99, 107, 32]⟩ ++ d ++ ⟨#[32, 49]⟩), .string (⟨#[116, 105, 99, 107, 32, 43, 49]⟩), .string (⟨#[116, 105, 99, 107, 32, 48, 49]⟩), .string (⟨#[116, 105, 99, 107, 32, 49, 32]⟩), .string (⟨#[84, 73, 67, 75, 32]⟩ ++ d), .string (⟨#[99, 97, 108, 108, 32]⟩ ++ d ++ ⟨#[32, 49, 32, 49, 32, 98, 101, 103, 105, 110, 32, 45]⟩), .string (⟨#[99, 97, 108, 108, 32]⟩ ++ d ++ ⟨#[32, 49, 32, 49, 32, 115, 116, 97, 114, 116, 32, 45, 32, 45]⟩), .string (⟨#[99, 97, 108, 108, 32]⟩ ++ d ++ ⟨#[32, 49, 32, 49, 32, 112, 117, 116, 32, 97, 32, 45]⟩), .string (⟨#[99, 97, 108, 108, 32]⟩ ++ d ++ ⟨#[32, 49, 32, 49, 32, 112, 117, 116, 32, 54, 32, 45]⟩), .string (⟨#[99, 97, 108, 108, 32]⟩ ++ d ++ ⟨#[32, 49, 32, 49, 32, 112, 117, 116, 32, 54, 65, 32, 45]⟩), .string (⟨#[111, 110, 32]⟩ ++ d ++ ⟨#[32, 48, 32, 48]⟩), .string (⟨#[111, 110, 32]⟩ ++ d ++ ⟨#[32, 48, 32, 48, 32, 50]⟩), .string (⟨#[111, 110, 32]⟩ ++ d ++ ⟨#[32, 48, 32, 48, 32]⟩), .string (⟨#[102, 117, 115, 101, 32]⟩ ++ d), .string (⟨#[100, 101, 108, 105, 118, 101, 114, 32, 120]⟩), .string (⟨#[111, 102, 102, 32, 49, 46, 48]⟩), .string (⟨#[100, 101, 108, 105, 118, 101, 114, 32, 57, 57, 57, 57, 57, 57, 57, 57, 57, 57, 57, 57, 57, 57, 57, 57, 57, 57, 57, 57]⟩)] : Array Value) = ((bads d).map Value.string).toArray := rfl
    rw [e, List.getElem?_toArray, List.getElem?_map, h]; rfl
  have HE3 := Lib.hid (HE.out.new ho3)
  have HO3 := Lib.hid ho3
  clear ho3 HO2 HE2 k3 HX
  generalize (w2.alloc (Obj.cells #[(Value.string (⟨#[]⟩)), .string (⟨#[32]⟩), .string (⟨#[116, 105, 99, 107]⟩), .string (⟨#[116, 105, 99, 107, 32]⟩ ++ d ++ ⟨#[32, 49]⟩), .string (⟨#[116, 105, 99, 107, 32, 43, 49]⟩), .string (⟨#[116, 105, 99, 107, 32, 48, 49]⟩), .string (⟨#[116, 105, 99, 107, 32, 49, 32]⟩), .string (⟨#[84, 73, 67, 75, 32]⟩ ++ d), .string (⟨#[99, 97, 108, 108, 32]⟩ ++ d ++ ⟨#[32, 49, 32, 49, 32, 98, 101, 103, 105, 110, 32, 45]⟩), .string (⟨#[99, 97, 108, 108, 32]⟩ ++ d ++ ⟨#[32, 49, 32, 49, 32, 115, 116, 97, 114, 116, 32, 45, 32, 45]⟩), .string (⟨#[99, 97, 108, 108, 32]⟩ ++ d ++ ⟨#[32, 49, 32, 49, 32, 112, 117, 116, 32, 97, 32, 45]⟩), .string (⟨#[99, 97, 108, 108, 32]⟩ ++ d ++ ⟨#[32, 49, 32, 49, 32, 112, 117, 116, 32, 54, 32, 45]⟩), .string (⟨#[99, 97, 108, 108, 32]⟩ ++ d ++ ⟨#[32, 49, 32, 49, 32, 112, 117, 116, 32, 54, 65, 32, 45]⟩), .string (⟨#[111, 110, 32]⟩ ++ d ++ ⟨#[32, 48, 32, 48]⟩), .string (⟨#[111, 110, 32]⟩ ++ d ++ ⟨#[32, 48, 32, 48, 32, 50]⟩), .string (⟨#[111, 110, 32]⟩ ++ d ++ ⟨#[32, 48, 32, 48, 32]⟩), .string (⟨#[102, 117, 115, 101, 32]⟩ ++ d), .string (⟨#[100, 101, 108, 105, 118, 101, 114, 32, 120]⟩), .string (⟨#[111, 102, 102, 32, 49, 46, 48]⟩), .string (⟨#[100, 101, 108, 105, 118, 101, 114, 32, 57, 57, 57, 57, 57, 57, 57, 57, 57, 57, 57, 57, 57, 57, 57, 57, 57, 57, 57, 57]⟩)] 9)) = w3 at *
  generalize w2.heap.size = B at *
  go_wp2_with fail
  refine (step_any x (by omega) HE3.out).mono ?_
  rintro e w4 ⟨ho4, ⟨s, v, hs, _⟩ | ⟨_, rfl⟩⟩
  · rw [hx1.out] at hs; cases hs
  · unfold stp0 Stp.cells Str
    have HO4 := Lib.hid ho4
    have HCJ := Lib.hid cj
    have HBL := Lib.hid (World.block_lt_of_cell? w3 _ cj)
    clear HE3 cj ho4
    go_upto_region 6 with fail
    have k1 : (w4.alloc (.cells #[(.int .i64 0 : Value), .int .i64 0, .int .i64 0, .int .i64 0, .int .i64 0, .string ⟨#[]⟩, .string ⟨#[]⟩, .int .i64 0, .int .i64 0, .slice none 0 0, .int .i64 0] 27)).heap[w4.heap.size]? = some (.cells #[(.int .i64 0 : Value), .int .i64 0, .int .i64 0, .int .i64 0, .int .i64 0, .string ⟨#[]⟩, .string ⟨#[]⟩, .int .i64 0, .int .i64 0, .slice none 0 0, .int .i64 0] 27 (0, 0)) := blk_alloc_new
    have HO5 := Lib.hid (show Only (fun _ => False) w3 (w4.alloc (.cells #[(.int .i64 0 : Value), .int .i64 0, .int .i64 0, .int .i64 0, .int .i64 0, .string ⟨#[]⟩, .string ⟨#[]⟩, .int .i64 0, .int .i64 0, .slice none 0 0, .int .i64 0] 27)) from HO4.out.alloc _)
    have K1 := Lib.hid k1
    clear k1 HO4
    generalize (w4.alloc (.cells #[(.int .i64 0 : Value), .int .i64 0, .int .i64 0, .int .i64 0, .int .i64 0, .string ⟨#[]⟩, .string ⟨#[]⟩, .int .i64 0, .int .i64 0, .slice none 0 0, .int .i64 0] 27)) = w5 at *
    generalize w4.heap.size = D1 at *
    have HE5 := Lib.hid (HE.out.new (HO3.out.trans' HO5.out))
    go_wp2_with fail
    refine (step_any _ (by rw [sz]; simp; omega) HE5.out).mono ?_
    rintro e w6 ⟨ho6, ⟨s, v, hs, rfl, hrow⟩ | ⟨hs, _⟩⟩
    · have hs2 := hs.symm.trans ((congrArg stepL (show _ = [111, 102, 102, 32] ++ Lib.itoa n by simp [Hd.out])).trans (off_step HN.out))
      injection hs2 with hs2
      subst hs2
      obtain ⟨a, cap, hv, _⟩ := hrow
      generalize (bools _).length = N at hv
      subst hv
      unfold Stp.cells Str
      have HO6 := Lib.hid (HO5.out.trans' ho6)
      have K16 := Lib.hid (ho6.blk K1.out id)
      clear hs HO5 HE5 K1 ho6
      go_upto_region 7 with fail
      have k2 : (w6.alloc (.cells #[(.int .i64 8 : Value), .int .i64 n, .int .i64 0, .int .i64 0, .int .i64 0, .string ⟨#[]⟩, .string ⟨#[]⟩, .int .i64 0, .int .i64 0, .slice a N cap, .int .i64 0] 27)).heap[w6.heap.size]? = some (.cells #[(.int .i64 8 : Value), .int .i64 n, .int .i64 0, .int .i64 0, .int .i64 0, .string ⟨#[]⟩, .string ⟨#[]⟩, .int .i64 0, .int .i64 0, .slice a N cap, .int .i64 0] 27 (0, 0)) := blk_alloc_new
      have HO7 := Lib.hid (show Only (fun _ => False) w3 (w6.alloc (.cells #[(.int .i64 8 : Value), .int .i64 n, .int .i64 0, .int .i64 0, .int .i64 0, .string ⟨#[]⟩, .string ⟨#[]⟩, .int .i64 0, .int .i64 0, .slice a N cap, .int .i64 0] 27)) from HO6.out.alloc _)
      have K17 := Lib.hid (blk_alloc_old (o' := (.cells #[(.int .i64 8 : Value), .int .i64 n, .int .i64 0, .int .i64 0, .int .i64 0, .string ⟨#[]⟩, .string ⟨#[]⟩, .int .i64 0, .int .i64 0, .slice a N cap, .int .i64 0] 27)) K16.out)
      have K2 := Lib.hid k2
      clear k2 HO6 K16
      generalize (w6.alloc (.cells #[(.int .i64 8 : Value), .int .i64 n, .int .i64 0, .int .i64 0, .int .i64 0, .string ⟨#[]⟩, .string ⟨#[]⟩, .int .i64 0, .int .i64 0, .slice a N cap, .int .i64 0] 27)) = w7 at *
      generalize w6.heap.size = D2 at *
      have HE7 := Lib.hid (HE.out.new (HO3.out.trans' HO7.out))
      have c7 : w7.cell? ⟨B, j, none⟩ = some (.string x) := by rw [World.cell?_of_block (w := w3) (HO7.out.block B HBL.out id)]; exact HCJ.out
      go_wp2_with fail
      refine (parse_any _ (by rw [sz]; simp; omega) HE7.out).mono ?_
      have hpe : ∀ (b : ByteArray), b.data.toList = ([111, 102, 102, 32] ++ Lib.itoa n) ++ 10 :: (x.data.toList ++ [10]) → parseL b.data.toList = none := fun b hb => by
        rw [hb]
        exact parse_bad (by have := itoa10 n; simp [this]) hx3.out hx1.out
      rintro e w8 ⟨ho8, ⟨L, v2, hp, _⟩ | ⟨_, rfl⟩⟩
      · rw [hpe _ (by simp [Hd.out])] at hp; cases hp
      · clear hpe c7
        have c0 := cell_of_blk (ho8.blk K17.out id) 0
        have c1 := cell_of_blk (ho8.blk K17.out id) 1
        have c2 := cell_of_blk (ho8.blk K17.out id) 2
        have c3 := cell_of_blk (ho8.blk K17.out id) 3
        have c4 := cell_of_blk (ho8.blk K17.out id) 4
        have c5 := cell_of_blk (ho8.blk K17.out id) 5
        have c6 := cell_of_blk (ho8.blk K17.out id) 6
        have c7 := cell_of_blk (ho8.blk K17.out id) 7
        have c8 := cell_of_blk (ho8.blk K17.out id) 8
        have c9 := cell_of_blk (ho8.blk K17.out id) 9
        have c10 := cell_of_blk (ho8.blk K17.out id) 10
        simp only [List.getElem?_toArray, List.getElem?_cons_zero, List.getElem?_cons_succ] at c0 c1 c2 c3 c4 c5 c6 c7 c8 c9 c10
        have K28 := Lib.hid (ho8.blk K2.out id)
        have HO8 := Lib.hid ((HO3.out.trans' HO7.out).trans' ho8)
        go_wp2_with fail
        refine (same_any (s := stp0) (u := .slice none 0 0) (v := .slice none 0 0) (Row1.nil _) (Row1.nil _)).mono ?_
        rintro e w9 ⟨rfl, ho9⟩
        clear c0 c1 c2 c3 c4 c5 c6 c7 c8 c9 c10
        have e0 := cell_of_blk (ho9.blk K28.out id) 0
        have e1 := cell_of_blk (ho9.blk K28.out id) 1
        simp only [List.getElem?_toArray, List.getElem?_cons_zero, List.getElem?_cons_succ] at e0 e1
        go_wp2_with fail
        go_ret
        exact ⟨rfl, HO8.out.trans' ho9⟩
    · have hs2 := hs.symm.trans ((congrArg stepL (show _ = [111, 102, 102, 32] ++ Lib.itoa n by simp [Hd.out])).trans (off_step HN.out))
      cases hs2
end Go.Proofs.YtcocmljollnpdaaDoor
