/- PatternTurns: packets turned round look as a turned pattern says, just if they looked so. For every input, as the given row says; the card ties the listed tables. -/
import Derived.SizedLaws
import Derived.Test.YtdobclfcondfcaaGreatDoorPA08
import Derived.Test.YtdobclfcondfcaaGreatDoorPA12

namespace Go.Proofs.YtdobclfcondfcaaGreatDoor.patternTurns
open Go.Proofs Go.RowKit Go.Shelf Go.Lib Go.ChangeShapes Go.Ax
open Go.ChangeMaps (open_string shut_string)
set_option maxRecDepth 100000
theorem contract (H : Type) (enc : TypeId × Value → H) (W : World) (base : Nat) (args : Array Value) (ds gs : List (DataW H)) (before : List MemPlace)
    (hval : ∀ (j : Nat) t v, Tryz.f5.params[j]? = some t → args[j]? = some v → Value.okWide Tryz.prog W .any base t v)
    (hW : DataW.Whole enc Tryz.prog Tryz.f5.params.toList Rows.patternTurnsSpec.vars false W args.toList ds gs before) (hz : (DataW.weightsEach Tryz.prog (Tryz.f5.params.toList ++ (OpenSpec.ofChange Rows.patternTurnsSpec).bare.plain.varTypes Tryz.prog) (ds ++ gs)).all (· ≤ reachBytes) = true) (hL : laidMetH Tryz.prog Rows.patternTurnsRow.laid W) :
    Calls Tryz.prog 5 args W fun e W' => ∃ v, e = .returned v ∧ Rows.patternTurnsSpec.post enc Tryz.prog Tryz.f5 false true false false W args v W' := by
  have hW' := hW
  obtain ⟨p, q, hA0, hV, rfl, _, _⟩ := hW
  have hA : DataW.TrodAll enc Tryz.prog W 0 (fun _ => true) true Tryz.f5.params.toList args.toList ds p := hA0
  rw [Tryz.params5] at hA hval
  obtain ⟨v0, v1, d0, d1, p0, p1, rfl, rfl, rfl, h0, h1⟩ := trodAll_two hA
  obtain ⟨rfl, rfl⟩ := trodVars_none hV
  have hrb := reachBytes_lt
  have hr := fun {n d} (hm : (n, d) ∈ Rows.patternTurnsRow.laid) => laidMet.reads hL hm
  obtain ⟨b, rfl, rfl, rfl, wb⟩ := open_string Tryz.underlying9 (hval 0 9 v0 rfl rfl) h0
  have hwt : ∀ m ∈ d1.weights Tryz.prog 42, m ≤ reachBytes := fun m hm => by
    have := List.all_eq_true.1 hz m (DataW.weights_mem_each (j := 1) (t := 42) (by kernel_rfl) rfl m hm)
    simpa using this
  obtain ⟨-, els, hrd, hfit⟩ := cv_slice Tryz.underlying42 (hval 1 42 v1 rfl rfl) h1 hwt (f2 := 6) (b := 16) (es := List.replicate 8 (.int .u16)) (by kernel_rfl)
  obtain ⟨l, e, hok, hl⟩ := packets_of hfit
  rw [e] at hrd
  have hC := patternTurns_ctr (gp0 W) (fun w hw => PowG.old hw (powG_of (hr (.tail _ (.tail _ (.head _)))))) (fun w hw => ErrG.old hw (errG_of hL.tail.tail.tail.tail)) b.data.toList l hok (by omega)
  clear hA hA0
  refine (calls_of_ctr0 hC #[.string b, v1] rfl fun i v x hi hx => ?_).mono fun e W' ⟨he, hb⟩ => ⟨_, he, post_law rfl rfl (by kernel_rfl) hW' rfl hb⟩
  match i with
  | 0 => simp at hi hx; subst hi; subst hx; rw [ba_of]; exact RA.intv _ rfl
  | 1 => simp at hi hx; subst hi; subst hx; exact .d _ _ hrd
  | n + 2 => simp at hi
noncomputable abbrev wargs : Array Value := #[.string ⟨#[]⟩, .slice none 0 0]
theorem reads (os : Os) {H : Type} (enc : TypeId × Value → H) : ∃ places, DataW.whole enc Tryz.prog (memOf os wargs) Tryz.f5.params.toList Rows.patternTurnsSpec.vars false wargs.toList 8 = some ([.lit (.string []), .nil], [], places) :=
  ⟨[], by kernel_rfl⟩
theorem laid_met (os : Os) : laidMet Tryz.prog Rows.patternTurnsRow.laid (memOf os wargs) := (laidInE os wargs).met
theorem lifted (os : Os) (started : os.Started) (H : Type) (enc : TypeId × Value → H) (F : Stop.Interp) :
    ReturnsInHanded {} Tryz.checked os 5 .any ((OpenSpec.ofChange Rows.patternTurnsSpec).preRow enc Tryz.prog Tryz.f5 Rows.patternTurnsRow.domain false Rows.patternTurnsRow.laid) (((OpenSpec.ofChange Rows.patternTurnsSpec).at F).post enc Tryz.prog Tryz.f5 false true false false) := by
  obtain ⟨places, hx⟩ := reads os enc
  refine returnsInHanded_of_row (C := Tryz.checked) (s := OpenSpec.ofChange Rows.patternTurnsSpec) own started (by kernel_rfl) Tryz.func5
    (witness_row_atRef (enc := enc) (C := Tryz.checked) false (laidWorld os) wargs rfl (by kernel_rfl) (by kernel_rfl) (by kernel_rfl)
      (OpenSpec.preRow_of_cond 8 hx (by kernel_rfl) (fun k hk => by cases hk) (by kernel_rfl) (laid_met os))) ?_
  intro W base args ds gs before hval hW _ _ hz hL _ _
  exact contract H enc W base args ds gs before hval hW hz hL
set_option maxHeartbeats 20000000 in
theorem closed : joinedFacts Tryz.pinned.checked.prog 5 Tryz.f5 (OpenSpec.ofChange Rows.patternTurnsSpec).bare Rows.patternTurnsRow = true := by
  unfold joinedFacts
  with_reducible repeat' apply andT
  all_goals (as_aux_lemma => kernel_rfl)
theorem said : Rows.PatternTurnsSaid :=
  OpenClaim.holds_of_cond 5 Tryz.f5 rfl rfl rfl rfl rfl rfl rfl ⟨rfl, rfl, rfl, rfl, rfl⟩ rfl rfl rfl rfl rfl (by kernel_rfl) Tryz.func5 closed
    (of_decide_eq_true (by kernel_rfl)) (by unfold Func.isWrapper; first | (rw [if_pos (by decide +kernel)]; kernel_rfl) | (rw [if_neg (by decide +kernel)]; exact ⟨rfl, rfl⟩))
    (fun os started H enc _ F => by rw [OpenClaim.pre_eq_preRow]; exact lifted os started H enc F)
theorem plain (f : FuncId) (fn : Func) (hf : Tryz.pinned.checked.prog.funcNamed "pointsman/pointsmanlaw37.PatternTurns" = some f) (hfn : Tryz.pinned.checked.prog.funcs[f]? = some fn) :
    true = Tryz.pinned.checked.prog.looks [] ∧ ∀ (j : Nat) t, fn.params[j]? = some t → Tryz.pinned.checked.prog.wantsStandIn t = false := by
  obtain rfl : f = 5 := Option.some.inj ((show Tryz.prog.funcNamed "pointsman/pointsmanlaw37.PatternTurns" = some 5 by kernel_rfl).symm.trans hf) |>.symm
  obtain rfl : fn = Tryz.f5 := (Option.some.inj (Tryz.func5.symm.trans hfn)).symm
  refine ⟨by kernel_rfl, fun j t ht => ?_⟩
  rw [Tryz.params5] at ht
  have h := Array.mem_of_getElem? ht
  simp at h
  rcases h with rfl | rfl
  · exact (show Tryz.prog.wantsStandIn 9 = false by kernel_rfl)
  · exact (show Tryz.prog.wantsStandIn 42 = false by kernel_rfl)
theorem card : Rows.PatternTurnsCardSaid :=
  Claim7.holds_tied_plain_at .later [] _ _ _ _ said (fun _ h => by cases h) (by kernel_rfl) (fun _ h => by cases h) patternTurns_row_tie rfl ⟨rfl, rfl⟩ (by kernel_rfl) rfl plain (by kernel_rfl)
end Go.Proofs.YtdobclfcondfcaaGreatDoor.patternTurns
