import Derived.Test.YtjokajidcojlmaaDoorDAxBw
import Derived.Test.YtjokajidcojlmaaDoorDAxNb
import Derived.SizedLaws

/- Law SyntaxNames (layer 5): a name stands for its number; one that has none, or two, is told; reserved words are no names. For every input, as the given row says; the card ties the listed tables. -/
namespace Go.Proofs.YtjokajidcojlmaaDoor.syntaxNames
open Go.Proofs Go.RowKit Go.Shelf Go.Lib Go.ChangeShapes Go.Ax
open Go.ChangeMaps (open_string shut_string)
set_option maxRecDepth 100000

theorem contract (H : Type) (enc : TypeId × Value → H) (W : World) (base : Nat) (args : Array Value) (ds gs : List (DataW H)) (before : List MemPlace)
    (hval : ∀ (j : Nat) t v, Tryd.f10.params[j]? = some t → args[j]? = some v → Value.okWide Tryd.prog W .any base t v)
    (hW : DataW.Whole enc Tryd.prog Tryd.f10.params.toList Rows.syntaxNamesSpec.vars false W args.toList ds gs before) (hz : (DataW.weightsEach Tryd.prog (Tryd.f10.params.toList ++ (OpenSpec.ofChange Rows.syntaxNamesSpec).bare.plain.varTypes Tryd.prog) (ds ++ gs)).all (· ≤ reachBytes) = true) (hL : laidMetH Tryd.prog Rows.syntaxNamesRow.laid W) :
    Calls Tryd.prog 10 args W fun e W' => ∃ v, e = .returned v ∧ Rows.syntaxNamesSpec.post enc Tryd.prog Tryd.f10 false true false false W args v W' := by
  have hW' := hW
  obtain ⟨p, q, hA0, hV, rfl, _, _⟩ := hW
  have hA : DataW.TrodAll enc Tryd.prog W 0 (fun _ => true) true Tryd.f10.params.toList args.toList ds p := hA0
  rw [Tryd.params10] at hA hval
  obtain ⟨v0, v1, d0, d1, p0, p1, rfl, rfl, rfl, h0, h1⟩ := trodAll_two hA
  obtain ⟨rfl, rfl⟩ := trodVars_none hV
  have hrb := reachBytes_lt
  have hr := fun {n d} (hm : (n, d) ∈ Rows.syntaxNamesRow.laid) => laidMet.reads hL hm
  obtain ⟨a, rfl, rfl, rfl, wa⟩ := open_string Tryd.underlying9 (hval 0 9 v0 rfl rfl) h0
  obtain ⟨b, rfl, rfl, rfl, wb⟩ := open_int Tryd.underlying5 (hval 1 5 v1 rfl rfl) h1
  have hb : 0 ≤ b ∧ b < 256 := by simp [Lit.wf, IntKind.min, IntKind.max, IntKind.bits, IntKind.signed] at wb; omega
  obtain ⟨n, rfl⟩ := Int.eq_ofNat_of_zero_le hb.1
  have s0 : a.size < 2 ^ 62 := by
    have := sized_string hz (j := 0) (t := 9) (by kernel_rfl) rfl
    rw [len_data] at this; omega
  have hG : LibG W := ⟨utf8G_of (hr (.tail _ (.tail _ (.tail _ (.head _))))) (hr (.head _)), propG_of (hr (.tail _ (.head _))), letterG_of (hr (.tail _ (.tail _ (.head _))))⟩
  have hC := namesLaw_ctr (gp0 W) (fun w hw => hG.old hw) a s0 n (by omega)
  clear hA hA0
  refine (calls_of_ctr0 hC #[.string a, .int .u8 n] rfl fun i v x hi hx => ?_).mono fun e W' ⟨he, hb⟩ => ⟨_, he, post_law rfl rfl (by kernel_rfl) hW' rfl hb⟩
  match i with
  | 0 => simp at hi hx; subst hi; subst hx; exact RA.intv _ rfl
  | 1 => simp at hi hx; subst hi; subst hx; exact RA.intv _ rfl
  | n + 2 => simp at hi

noncomputable abbrev wargs : Array Value := #[.string ⟨#[]⟩, .int .u8 0]
theorem reads (os : Os) {H : Type} (enc : TypeId × Value → H) : ∃ places, DataW.whole enc Tryd.prog (memOf os wargs) Tryd.f10.params.toList Rows.syntaxNamesSpec.vars false wargs.toList 8 = some ([.lit (.string []), .lit (.int .u8 0)], [], places) :=
  ⟨[], by kernel_rfl⟩
theorem laid_met (os : Os) : laidMet Tryd.prog Rows.syntaxNamesRow.laid (memOf os wargs) := (laidIn4 os wargs).met

theorem lifted (os : Os) (started : os.Started) (H : Type) (enc : TypeId × Value → H) (F : Stop.Interp) :
    ReturnsInHanded {} Tryd.checked os 10 .any ((OpenSpec.ofChange Rows.syntaxNamesSpec).preRow enc Tryd.prog Tryd.f10 Rows.syntaxNamesRow.domain false Rows.syntaxNamesRow.laid) (((OpenSpec.ofChange Rows.syntaxNamesSpec).at F).post enc Tryd.prog Tryd.f10 false true false false) := by
  obtain ⟨places, hx⟩ := reads os enc
  refine returnsInHanded_of_row (C := Tryd.checked) (s := OpenSpec.ofChange Rows.syntaxNamesSpec) own started (by kernel_rfl) Tryd.func10
    (witness_row_atRef (enc := enc) (C := Tryd.checked) false (laidWorld os) wargs rfl (by kernel_rfl) (by kernel_rfl) (by kernel_rfl)
      (OpenSpec.preRow_of_cond 8 hx (by kernel_rfl) (fun k hk => by cases hk) (by kernel_rfl) (laid_met os))) ?_
  intro W base args ds gs before hval hW _ _ hz hL _ _
  exact contract H enc W base args ds gs before hval hW hz hL

set_option maxHeartbeats 20000000 in
/-- One by one: all in one outgrows a process. -/
theorem closed : joinedFacts Tryd.pinned.checked.prog 10 Tryd.f10 (OpenSpec.ofChange Rows.syntaxNamesSpec).bare Rows.syntaxNamesRow = true := by
  unfold joinedFacts
  with_reducible repeat' apply andT
  all_goals (as_aux_lemma => kernel_rfl)

theorem said : Rows.SyntaxNamesSaid :=
  OpenClaim.holds_of_cond 10 Tryd.f10 rfl rfl rfl rfl rfl rfl rfl ⟨rfl, rfl, rfl, rfl, rfl⟩ rfl rfl rfl rfl rfl (by kernel_rfl) Tryd.func10 closed
    (of_decide_eq_true (by kernel_rfl)) (by unfold Func.isWrapper; first | (rw [if_pos (by decide +kernel)]; kernel_rfl) | (rw [if_neg (by decide +kernel)]; exact ⟨rfl, rfl⟩))
    (fun os started H enc _ F => by rw [OpenClaim.pre_eq_preRow]; exact lifted os started H enc F)

theorem plain (f : FuncId) (fn : Func) (hf : Tryd.pinned.checked.prog.funcNamed "pointsman/pointsmanlaw05.SyntaxNames" = some f) (hfn : Tryd.pinned.checked.prog.funcs[f]? = some fn) :
    true = Tryd.pinned.checked.prog.looks [] ∧ ∀ (j : Nat) t, fn.params[j]? = some t → Tryd.pinned.checked.prog.wantsStandIn t = false := by
  obtain rfl : f = 10 := Option.some.inj ((show Tryd.prog.funcNamed "pointsman/pointsmanlaw05.SyntaxNames" = some 10 by kernel_rfl).symm.trans hf) |>.symm
  obtain rfl : fn = Tryd.f10 := (Option.some.inj (Tryd.func10.symm.trans hfn)).symm
  refine ⟨by kernel_rfl, fun j t ht => ?_⟩
  rw [Tryd.params10] at ht
  have h := Array.mem_of_getElem? ht
  simp at h
  rcases h with rfl | rfl
  · exact (show Tryd.prog.wantsStandIn 9 = false by kernel_rfl)
  · exact (show Tryd.prog.wantsStandIn 5 = false by kernel_rfl)

/-- The card. -/
theorem card : Rows.SyntaxNamesCardSaid :=
  Claim7.holds_tied_plain_at .later [] _ _ _ _ said (fun _ h => by cases h) (by kernel_rfl) (fun _ h => by cases h) syntaxNames_row_tie rfl ⟨rfl, rfl⟩ (by kernel_rfl) rfl plain (by kernel_rfl)
end Go.Proofs.YtjokajidcojlmaaDoor.syntaxNames
