/- script: from what the rows list to what the walks ask; the rows' wrap. -/
import Derived.Test.YtcocmljollnpdaaDoorSc1
import Derived.Lib.LaidU8
import Derived.Stop.LaidErr
import Derived.HandedShaped
import Derived.OpenShut
namespace Go.Proofs.YtcocmljollnpdaaDoor
open Go Go.RowKit Go.Dm Go.ChangeShapes

theorem strs_of_reads {P : Program} {w : World} {n : String} {t : TypeId} {k : Nat} {ls : List (List UInt8)} (ht : P.underlying t = some (.array k 9)) (h9 : P.underlying 9 = some .string) (hc : P.cellsOf 9 = 1) {g : Nat} (hg : P.globalNamed n = some g)
    (hty : (P.globals[g]?).map (·.type) = some t) (h : Lib.VarReads P w n (.agg (ls.map fun l => .lit (.string l)))) : ∀ (i : Nat) (l : List UInt8), ls[i]? = some l → w.cell? ⟨g, i, none⟩ = some (Str l) := by
  obtain ⟨g', t', cs, fuel, p, h1, h2, h3, h4⟩ := h
  obtain rfl := Option.some.inj (hg.symm.trans h1)
  obtain rfl := Option.some.inj (hty.symm.trans h2)
  obtain ⟨xs, m, _, hx, hl, hxl, hall⟩ := DataW.trod_array ht h4
  intro i l hi
  have hxs : xs.map (·.1) = ls.map fun l => (DataW.lit (.string l) : DataW Unit) := by
    have := congrArg Prod.fst hx
    simpa using this.symm
  have hlen : ls.length = k := by
    have := congrArg List.length hxs
    simp at this
    omega
  have hik : i < k := by have := (List.getElem?_eq_some_iff.1 hi).1; omega
  have h5 := hall i hik
  obtain ⟨x, hx5⟩ : ∃ x, xs[i]? = some x := ⟨_, List.getElem?_eq_getElem (by omega)⟩
  rw [hx5, hc, Nat.mul_one] at h5
  obtain ⟨s, hs, hxv, _⟩ := DataW.trod_string h9 h5
  have h6 : (xs.map (·.1))[i]? = some (DataW.lit (.string l)) := by rw [hxs, List.getElem?_map, hi]; rfl
  rw [List.getElem?_map, hx5] at h6
  rw [hxv] at h6
  have h7 : s.data.toList = l := by simpa using h6
  have h8 : cs.toList[i]? = some (.string s) := by
    have := congrArg (·[0]?) hs
    simpa [List.getElem?_take, List.getElem?_drop] using this
  rw [World.var?_cell h1 h3 i]
  unfold Str
  rw [← h7]
  simpa using h8

theorem tab_of_reads {P : Program} {W : World} {name : String} {k : IntKind} {zs : List Int} {g : Nat} {t e : TypeId} {n : Nat}
    (hg : P.globalNamed name = some g) (hty : (P.globals[g]?).map (·.type) = some t) (ht : P.underlying t = some (.array n e)) (he : P.underlying e = some (.int k)) (hce : P.cellsOf e = 1) (hct : P.cellsOf t = n)
    (h : Lib.VarReads P W name (Lib.tabData k zs)) : Lib.TabIs P W name k zs := by
  obtain ⟨g', t', cs, fuel, p, h1, h2, h3, h4⟩ := h
  obtain rfl := Option.some.inj (hg.symm.trans h1)
  obtain rfl := Option.some.inj (hty.symm.trans h2)
  unfold Lib.TabIs
  rw [h3]
  have := Lib.cells_of_tab ht he hce hct h4
  rw [← this]

/-- The wrap: a row that lists variables, its world's shape kept. -/
theorem handed_all {H : Type} {enc : TypeId × Value → H} {a : Assume} {C : Checked} {os : Os} {f : FuncId} {fn : Func} {s : ChangeSpec} {conds : List PathCond} {apart fresh handsOn again : Bool} {X : World → Array Value → Prop}
    (hX : ∀ (w w' : World) (args : Array Value), w.heap = w'.heap → X w args → X w' args)
    (own : ownKnob C.prog.godebug = none) (started : os.Started) (noInit : C.prog.inits.idxOf? f = none) (hfn : C.prog.funcs[f]? = some fn)
    (witness : ∃ (w : World) (tape : Tape) (i : Input), w.os = os ∧ (w.forCall tape i).Shaped C.prog ∧ i.vars = [] ∧ Input.okWide C.prog (w.forCall tape i) .any w.heap.size f i ∧
      ((s.pre enc C.prog fn conds apart (w.forCall tape i).memory i.args ∧ X (w.forCall tape i).memory i.args) ∧ sizedMet enc C.prog fn (OpenSpec.ofChange s) apart (w.forCall tape i).memory i.args) ∧ a.holds C.prog (lone (Frame.enter C.prog f i.args .normal) [] (w.forCall tape i)))
    (contract : ∀ (W : World) (base : Nat) (args : Array Value) (ds gs : List (DataW H)) (before : List MemPlace),
      (∀ (j : Nat) t v, fn.params[j]? = some t → args[j]? = some v → Value.okWide C.prog W .any base t v) →
      DataW.Whole enc C.prog fn.params.toList s.vars apart W args.toList ds gs before →
      (DataW.weightsEach C.prog (fn.params.toList ++ s.plain.varTypes C.prog) (ds ++ gs)).all (· ≤ reachBytes) = true → X W args → W.ShapedOpen C.prog →
      Calls C.prog f args W fun e W' => ∃ v, e = .returned v ∧ s.post enc C.prog fn apart fresh handsOn again W args v W') :
    ReturnsInHanded a C os f .any (fun w args => (s.pre enc C.prog fn conds apart w args ∧ X w args) ∧ sizedMet enc C.prog fn (OpenSpec.ofChange s) apart w args) (s.post enc C.prog fn apart fresh handsOn again) := by
  refine returnsInHanded_of_calls own started noInit witness ?_
  intro w tape i _ hsh _ hok hpre hholds
  obtain ⟨_, _, _, fn', hfn', _, _, _, _, hval⟩ := hok
  have e : fn' = fn := Option.some.inj (hfn'.symm.trans hfn)
  subst e
  obtain ⟨⟨⟨ds, gs, before, hw, hc⟩, hx⟩, hz⟩ := hpre
  have hw' := DataW.Whole.of_heap (w' := w.forCall tape i) (by rfl) hw
  refine (contract (w.forCall tape i) w.heap.size i.args ds gs before hval hw' (hz.weights hw) (hX _ _ _ (by rfl) hx) hsh).mono fun e W' ⟨v, he, hp⟩ => ?_
  subst he
  exact ChangeSpec.post_blind hp

theorem iface_of_reads {P : Program} {w : World} {n nm : String} {d : DataW Unit} {t : TypeId} {ms : Array (String × TypeId)} {g : Nat} (hg : P.globalNamed n = some g) (hty : (P.globals[g]?).map (·.type) = some t) (ht : P.underlying t = some (.interface ms))
    (h : Lib.VarReads P w n (.iface nm d)) : ∃ tp p, w.var? P n = some #[.iface tp p] := by
  obtain ⟨g', t', cs, fuel, p, h1, h2, h3, h4⟩ := h
  obtain rfl := Option.some.inj (hg.symm.trans h1)
  obtain rfl := Option.some.inj (hty.symm.trans h2)
  obtain ⟨l⟩ := cs
  cases fuel with
  | zero => simp [DataW.trod] at h4
  | succ m =>
    unfold DataW.trod at h4
    simp only [ht] at h4
    split at h4
    all_goals first
      | exact ⟨_, _, h3⟩
      | (exfalso; injection h4 with h4; injection h4 with h4; cases h4; done)
      | (exfalso; have hq := ‹some (TypeDesc.interface ms) = _›; injection hq with hq; cases hq)
      | (injection h4 with h4; injection h4 with h4; cases h4)
      | cases h4

set_option maxRecDepth 100000 in
theorem env_of {W : World} (hsh : W.ShapedOpen Tryd.prog) (hb : 10 ≤ W.heap.size) {l : List (String × DataW Unit)} (hL : laidMet Tryd.prog l W)
    (m1 : ("internal/strconv.uint64pow10", Lib.tabData .u64 Lib.pow10Tab) ∈ l) (m2 : ("dockmaster/script.steps", (.agg (stepsT.map fun l => .lit (.string l)) : DataW Unit)) ∈ l) (m3 : ("dockmaster/script.calls", (.agg (callsT.map fun l => .lit (.string l)) : DataW Unit)) ∈ l)
    (m4 : ("strconv.ErrSyntax", (.iface "*errors.errorString" (.ptr (.agg [.lit (.string [105, 110, 118, 97, 108, 105, 100, 32, 115, 121, 110, 116, 97, 120])])) : DataW Unit)) ∈ l)
    (m5 : ("strconv.ErrRange", (.iface "*errors.errorString" (.ptr (.agg [.lit (.string [118, 97, 108, 117, 101, 32, 111, 117, 116, 32, 111, 102, 32, 114, 97, 110, 103, 101])])) : DataW Unit)) ∈ l) : Env W := by
  refine ⟨hb, Tryd.laysM146.s1_3 W hsh, tab_of_reads gn3 (by kernel_rfl) Tryd.underlying95 Tryd.underlying84 (by kernel_rfl) (by kernel_rfl) (Lib.laidMet.reads hL m1), ?_, ?_, ?_, ?_⟩
  · exact iface_of_reads gn6 (t := 65) (by kernel_rfl) Tryd.underlying65 (Lib.laidMet.reads hL m4)
  · exact iface_of_reads gn7 (t := 65) (by kernel_rfl) Tryd.underlying65 (Lib.laidMet.reads hL m5)
  · exact strs_of_reads Tryd.underlying50 Tryd.underlying9 (by kernel_rfl) (by kernel_rfl) (by kernel_rfl) (Lib.laidMet.reads hL m2)
  · exact strs_of_reads Tryd.underlying69 Tryd.underlying9 (by kernel_rfl) (by kernel_rfl) (by kernel_rfl) (Lib.laidMet.reads hL m3)
/-- What stands on the list at a place. -/
theorem listed_at {α : Type} {l : List α} {x : α} (i : Nat) (h : l[i]? = some x) : x ∈ l := List.mem_of_getElem? h
theorem gn9 : Tryd.prog.globalNamed "math/bits.deBruijn64tab" = some 9 := by kernel_rfl
theorem big_of {W : World} {l : List (String × DataW Unit)} {d : DataW Unit} (h : laidMet Tryd.prog l W) (m : ("math/bits.deBruijn64tab", d) ∈ l) : 10 ≤ W.heap.size := by
  obtain ⟨g, t, cs, fuel, p, h1, h2, h3, h4⟩ := Lib.laidMet.reads h m
  obtain rfl := Option.some.inj (gn9.symm.trans h1)
  unfold World.var? at h3
  rw [gn9] at h3
  simp only [Option.bind_some] at h3
  split at h3
  · rename_i hh
    exact (Array.getElem?_eq_some_iff.1 hh).1
  · cases h3
end Go.Proofs.YtcocmljollnpdaaDoor
