/- Law LexLines (layer 4): two texts in lines of their own have the tokens of both, or the first one's error, or else the second one's; a remark's text plays no part. For every input, as the given row says; the card ties the listed tables. -/
import Derived.Test.YtjokajidcojlmaaDoorAxBw
import Derived.Test.YtjokajidcojlmaaDoorAxLw
import Derived.SizedLaws
namespace Go.Proofs.YtjokajidcojlmaaDoor.lexLines
open Go.Proofs Go.RowKit Go.Shelf Go.Lib Go.ChangeShapes Go.Ax
open Go.ChangeMaps (open_string shut_string)
set_option maxRecDepth 100000

theorem contract (H : Type) (enc : TypeId × Value → H) (W : World) (base : Nat) (args : Array Value) (ds gs : List (DataW H)) (before : List MemPlace)
    (hval : ∀ (j : Nat) t v, Tryd.f5.params[j]? = some t → args[j]? = some v → Value.okWide Tryd.prog W .any base t v)
    (hW : DataW.Whole enc Tryd.prog Tryd.f5.params.toList Rows.lexLinesSpec.vars false W args.toList ds gs before) (hz : (DataW.weightsEach Tryd.prog (Tryd.f5.params.toList ++ (OpenSpec.ofChange Rows.lexLinesSpec).bare.plain.varTypes Tryd.prog) (ds ++ gs)).all (· ≤ reachBytes) = true) (hL : laidMetH Tryd.prog Rows.lexLinesRow.laid W) :
    Calls Tryd.prog 5 args W fun e W' => ∃ v, e = .returned v ∧ Rows.lexLinesSpec.post enc Tryd.prog Tryd.f5 false true false false W args v W' := by
  have hW' := hW
  obtain ⟨p, q, hA0, hV, rfl, _, _⟩ := hW
  have hA : DataW.TrodAll enc Tryd.prog W 0 (fun _ => true) true Tryd.f5.params.toList args.toList ds p := hA0
  rw [Tryd.params5] at hA hval
  obtain ⟨v0, v1, v2, d0, d1, d2, p0, p1, p2, rfl, rfl, rfl, h0, h1, h2⟩ := trodAll_three hA
  obtain ⟨rfl, rfl⟩ := trodVars_none hV
  obtain ⟨a, rfl, rfl, rfl, wa⟩ := open_string Tryd.underlying9 (hval 0 9 v0 rfl rfl) h0
  obtain ⟨b, rfl, rfl, rfl, wb⟩ := open_string Tryd.underlying9 (hval 1 9 v1 rfl rfl) h1
  obtain ⟨m, rfl, rfl, rfl, wm⟩ := open_string Tryd.underlying9 (hval 2 9 v2 rfl rfl) h2
  clear hA hA0
  have hr := fun {n d} (hm : (n, d) ∈ Rows.lexLinesRow.laid) => laidMet.reads hL hm
  have hD : DebG W := debG_of (hr (.tail _ (.head _)))
  have hG : LibG W := ⟨utf8G_of (hr (.tail _ (.tail _ (.tail _ (.tail _ (.tail _ (.tail _ (.head _)))))))) (hr (.tail _ (.tail _ (.tail _ (.head _))))), propG_of (hr (.tail _ (.tail _ (.tail _ (.tail _ (.head _)))))), letterG_of (hr (.tail _ (.tail _ (.tail _ (.tail _ (.tail _ (.head _))))))), powG_of (hr (.tail _ (.tail _ (.head _))))⟩
  have sz : ∀ s : ByteArray, s.data.toList.length ≤ reachBytes → s.size < 2 ^ 62 := fun s h => by
    have := reachBytes_lt
    rw [len_data] at h; omega
  have s0 : a.size < 2 ^ 62 := sz a (sized_string hz (j := 0) (t := 9) (by kernel_rfl) rfl)
  have s1 : b.size < 2 ^ 62 := sz b (sized_string hz (j := 1) (t := 9) (by kernel_rfl) rfl)
  have s2 : m.size < 2 ^ 62 := sz m (sized_string hz (j := 2) (t := 9) (by kernel_rfl) rfl)
  have hC := linesLaw_ctr (gpOf W hD) (fun w hw => hG.old hw) a b m s0 s1 s2
  refine (calls_of_ctr hC #[.string a, .string b, .string m] rfl fun i v x hi hx => ?_).mono fun e W' ⟨he, hb⟩ => ⟨_, he, post_law rfl rfl (by kernel_rfl) hW' rfl hb⟩
  match i with
  | 0 => simp at hi hx; subst hi; subst hx; exact RA.intv _ rfl
  | 1 => simp at hi hx; subst hi; subst hx; exact RA.intv _ rfl
  | 2 => simp at hi hx; subst hi; subst hx; exact RA.intv _ rfl
  | n + 3 => simp at hi

noncomputable abbrev wargs : Array Value := #[.string ⟨#[]⟩, .string ⟨#[]⟩, .string ⟨#[]⟩]
theorem reads (os : Os) {H : Type} (enc : TypeId × Value → H) : ∃ places, DataW.whole enc Tryd.prog (memOf os wargs) Tryd.f5.params.toList Rows.lexLinesSpec.vars false wargs.toList 8 = some ([.lit (.string []), .lit (.string []), .lit (.string [])], [], places) :=
  ⟨[], by kernel_rfl⟩
theorem laid_met (os : Os) : laidMet Tryd.prog Rows.lexLinesRow.laid (memOf os wargs) := (laidIn7 os wargs).met

theorem lifted (os : Os) (started : os.Started) (H : Type) (enc : TypeId × Value → H) (F : Stop.Interp) :
    ReturnsInHanded {} Tryd.checked os 5 .any ((OpenSpec.ofChange Rows.lexLinesSpec).preRow enc Tryd.prog Tryd.f5 Rows.lexLinesRow.domain false Rows.lexLinesRow.laid) (((OpenSpec.ofChange Rows.lexLinesSpec).at F).post enc Tryd.prog Tryd.f5 false true false false) := by
  obtain ⟨places, hx⟩ := reads os enc
  refine returnsInHanded_of_row (C := Tryd.checked) (s := OpenSpec.ofChange Rows.lexLinesSpec) own started (by kernel_rfl) Tryd.func5
    (witness_row_atRef (enc := enc) (C := Tryd.checked) false (laidWorld os) wargs rfl (by kernel_rfl) (by kernel_rfl) (by kernel_rfl)
      (OpenSpec.preRow_of_cond 8 hx (by kernel_rfl) (fun k hk => by cases hk) (by kernel_rfl) (laid_met os))) ?_
  intro W base args ds gs before hval hW _ _ hz hL _ _
  exact contract H enc W base args ds gs before hval hW hz hL

theorem said : Rows.LexLinesSaid :=
  OpenClaim.holds_of_cond 5 Tryd.f5 rfl rfl rfl rfl rfl rfl rfl ⟨rfl, rfl, rfl, rfl, rfl⟩ rfl rfl rfl rfl rfl (by kernel_rfl) Tryd.func5 (by kernel_rfl)
    (of_decide_eq_true (by kernel_rfl)) (by unfold Func.isWrapper; first | (rw [if_pos (by decide +kernel)]; kernel_rfl) | (rw [if_neg (by decide +kernel)]; exact ⟨rfl, rfl⟩))
    (fun os started H enc _ F => by rw [OpenClaim.pre_eq_preRow]; exact lifted os started H enc F)

theorem plain (f : FuncId) (fn : Func) (hf : Tryd.pinned.checked.prog.funcNamed "pointsman/pointsmanlaw04.LexLines" = some f) (hfn : Tryd.pinned.checked.prog.funcs[f]? = some fn) :
    true = Tryd.pinned.checked.prog.looks [] ∧ ∀ (j : Nat) t, fn.params[j]? = some t → Tryd.pinned.checked.prog.wantsStandIn t = false := by
  obtain rfl : f = 5 := Option.some.inj ((show Tryd.prog.funcNamed "pointsman/pointsmanlaw04.LexLines" = some 5 by kernel_rfl).symm.trans hf) |>.symm
  obtain rfl : fn = Tryd.f5 := (Option.some.inj (Tryd.func5.symm.trans hfn)).symm
  refine ⟨by kernel_rfl, fun j t ht => ?_⟩
  rw [Tryd.params5] at ht
  obtain rfl : t = 9 := by
    have := Array.mem_of_getElem? ht
    simpa using this
  exact (show Tryd.prog.wantsStandIn 9 = false by kernel_rfl)

/-- The card. -/
theorem card : Rows.LexLinesCardSaid :=
  Claim7.holds_tied_plain_at .later [] _ _ _ _ said (fun _ h => by cases h) (by kernel_rfl) (fun _ h => by cases h) lexLines_row_tie rfl ⟨rfl, rfl⟩ (by kernel_rfl) rfl plain (by kernel_rfl)
end Go.Proofs.YtjokajidcojlmaaDoor.lexLines
