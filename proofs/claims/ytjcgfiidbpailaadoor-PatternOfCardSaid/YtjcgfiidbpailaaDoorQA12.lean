/- PatternOf: packets look as their words say, and with any packets ahead, behind and between. For every input, as the given row says; the card ties the listed tables. -/
import Derived.SizedLaws
import Derived.Test.YtjcgfiidbpailaaDoorQA08
import Derived.Test.YtjcgfiidbpailaaDoorQA11

namespace Go.Proofs.YtjcgfiidbpailaaDoor.patternOf
open Go.Proofs Go.RowKit Go.Shelf Go.Lib Go.ChangeShapes Go.Ax
open Go.ChangeMaps (open_string shut_string)
set_option maxRecDepth 100000
theorem contract (H : Type) (enc : TypeId × Value → H) (W : World) (base : Nat) (args : Array Value) (ds gs : List (DataW H)) (before : List MemPlace)
    (hval : ∀ (j : Nat) t v, Tryd.f6.params[j]? = some t → args[j]? = some v → Value.okWide Tryd.prog W .any base t v)
    (hW : DataW.Whole enc Tryd.prog Tryd.f6.params.toList Rows.patternOfSpec.vars false W args.toList ds gs before) (hz : (DataW.weightsEach Tryd.prog (Tryd.f6.params.toList ++ (OpenSpec.ofChange Rows.patternOfSpec).bare.plain.varTypes Tryd.prog) (ds ++ gs)).all (· ≤ reachBytes) = true) (hL : laidMetH Tryd.prog Rows.patternOfRow.laid W) :
    Calls Tryd.prog 6 args W fun e W' => ∃ v, e = .returned v ∧ Rows.patternOfSpec.post enc Tryd.prog Tryd.f6 false true false false W args v W' := by
  have hW' := hW
  obtain ⟨p, q, hA0, hV, rfl, _, _⟩ := hW
  have hA : DataW.TrodAll enc Tryd.prog W 0 (fun _ => true) true Tryd.f6.params.toList args.toList ds p := hA0
  rw [Tryd.params6] at hA hval
  obtain ⟨v0, d0, rfl, rfl, h0⟩ := trodAll_one hA
  obtain ⟨rfl, rfl⟩ := trodVars_none hV
  have hrb := reachBytes_lt
  have hr := fun {n d} (hm : (n, d) ∈ Rows.patternOfRow.laid) => laidMet.reads hL hm
  have hwt : ∀ m ∈ d0.weights Tryd.prog 58, m ≤ reachBytes := fun m hm => by
    have := List.all_eq_true.1 hz m (DataW.weights_mem_each (j := 0) (t := 58) (by kernel_rfl) rfl m hm)
    simpa using this
  obtain ⟨-, els, hrd, hfit⟩ := cv_slice Tryd.underlying58 (hval 0 58 v0 rfl rfl) h0 hwt (f2 := 6) (b := 16) (es := List.replicate 8 (.int .u16)) (by kernel_rfl)
  obtain ⟨l, e, hok, hl⟩ := packets_of hfit
  rw [e] at hrd
  have hC := patternOf_ctr (gp0 W) (fun w hw => PowG.old hw (powG_of (hr (.tail _ (.tail _ (.head _)))))) (fun w hw => ErrG.old hw (errG_of hL.tail.tail.tail.tail)) l hok (by omega)
  clear hA hA0
  refine (calls_of_ctr0 hC #[v0] rfl fun i v x hi hx => ?_).mono fun e W' ⟨he, hb⟩ => ⟨_, he, post_law rfl rfl (by kernel_rfl) hW' rfl hb⟩
  match i with
  | 0 => simp at hi hx; subst hi; subst hx; exact .d _ _ hrd
  | n + 1 => simp at hi
noncomputable abbrev wargs : Array Value := #[.slice none 0 0]
theorem reads (os : Os) {H : Type} (enc : TypeId × Value → H) : ∃ places, DataW.whole enc Tryd.prog (memOf os wargs) Tryd.f6.params.toList Rows.patternOfSpec.vars false wargs.toList 8 = some ([.nil], [], places) :=
  ⟨[], by kernel_rfl⟩
theorem laid_met (os : Os) : laidMet Tryd.prog Rows.patternOfRow.laid (memOf os wargs) := (laidInE os wargs).met
theorem lifted (os : Os) (started : os.Started) (H : Type) (enc : TypeId × Value → H) (F : Stop.Interp) :
    ReturnsInHanded {} Tryd.checked os 6 .any ((OpenSpec.ofChange Rows.patternOfSpec).preRow enc Tryd.prog Tryd.f6 Rows.patternOfRow.domain false Rows.patternOfRow.laid) (((OpenSpec.ofChange Rows.patternOfSpec).at F).post enc Tryd.prog Tryd.f6 false true false false) := by
  obtain ⟨places, hx⟩ := reads os enc
  refine returnsInHanded_of_row (C := Tryd.checked) (s := OpenSpec.ofChange Rows.patternOfSpec) own started (by kernel_rfl) Tryd.func6
    (witness_row_atRef (enc := enc) (C := Tryd.checked) false (laidWorld os) wargs rfl (by kernel_rfl) (by kernel_rfl) (by kernel_rfl)
      (OpenSpec.preRow_of_cond 8 hx (by kernel_rfl) (fun k hk => by cases hk) (by kernel_rfl) (laid_met os))) ?_
  intro W base args ds gs before hval hW _ _ hz hL _ _
  exact contract H enc W base args ds gs before hval hW hz hL
set_option maxHeartbeats 20000000 in
theorem closed : joinedFacts Tryd.pinned.checked.prog 6 Tryd.f6 (OpenSpec.ofChange Rows.patternOfSpec).bare Rows.patternOfRow = true := by
  unfold joinedFacts
  with_reducible repeat' apply andT
  all_goals (as_aux_lemma => kernel_rfl)
theorem said : Rows.PatternOfSaid :=
  OpenClaim.holds_of_cond 6 Tryd.f6 rfl rfl rfl rfl rfl rfl rfl ⟨rfl, rfl, rfl, rfl, rfl⟩ rfl rfl rfl rfl rfl (by kernel_rfl) Tryd.func6 closed
    (of_decide_eq_true (by kernel_rfl)) (by unfold Func.isWrapper; first | (rw [if_pos (by decide +kernel)]; kernel_rfl) | (rw [if_neg (by decide +kernel)]; exact ⟨rfl, rfl⟩))
    (fun os started H enc _ F => by rw [OpenClaim.pre_eq_preRow]; exact lifted os started H enc F)
theorem plain (f : FuncId) (fn : Func) (hf : Tryd.pinned.checked.prog.funcNamed "pointsman/pointsmanlaw37.PatternOf" = some f) (hfn : Tryd.pinned.checked.prog.funcs[f]? = some fn) :
    true = Tryd.pinned.checked.prog.looks [] ∧ ∀ (j : Nat) t, fn.params[j]? = some t → Tryd.pinned.checked.prog.wantsStandIn t = false := by
  obtain rfl : f = 6 := Option.some.inj ((show Tryd.prog.funcNamed "pointsman/pointsmanlaw37.PatternOf" = some 6 by kernel_rfl).symm.trans hf) |>.symm
  obtain rfl : fn = Tryd.f6 := (Option.some.inj (Tryd.func6.symm.trans hfn)).symm
  refine ⟨by kernel_rfl, fun j t ht => ?_⟩
  rw [Tryd.params6] at ht
  obtain rfl : t = 58 := by
    have := Array.mem_of_getElem? ht
    simpa using this
  exact (show Tryd.prog.wantsStandIn 58 = false by kernel_rfl)
theorem card : Rows.PatternOfCardSaid :=
  Claim7.holds_tied_plain_at .later [] _ _ _ _ said (fun _ h => by cases h) (by kernel_rfl) (fun _ h => by cases h) patternOf_row_tie rfl ⟨rfl, rfl⟩ (by kernel_rfl) rfl plain (by kernel_rfl)
end Go.Proofs.YtjcgfiidbpailaaDoor.patternOf
