/- What the card of this claim stands on, or the card itself: for every input, as the given row says. -/
import Derived.Test.YtjcgfiidbpailaaDoorSA08
import Derived.Test.YtjcgfiidbpailaaDoorSA09
import Derived.Test.YtjcgfiidbpailaaDoorSA10
import Derived.Test.YtjcgfiidbpailaaDoorSA13
import Derived.Test.YtjcgfiidbpailaaDoorSA14
import Derived.Test.YtjcgfiidbpailaaDoorSA15
namespace Go.Ax
open Go.Proofs
set_option maxRecDepth 10000
def zeroG : List D := [.v (.slice none 0 0), .i64 0, .i64 0, .u16 0, .v (.slice none 0 0), .v (.slice none 0 0)]
theorem quiet_ctr (g : GP) (cs ds : List D) : CtrD (ax g).E 57 [.ptr 9002 0, .ptr 9003 0] [(9002, some (.dvar 6 cs)), (9003, some (.dvar 1 ds))] .returning .returning (fun o => o = .ret (.tup []) [(9002, some (.dvar 6 cs)), (9003, some (.dvar 1 ds))]) := by
  refine CtrD.body (X := ax g) .nilIface (.d (.v .nilIface)) _ _ _ _ 17 [9002, 9003] [] 5 2 Tryd.func57 rfl rfl rfl rfl (by decide +kernel) rfl rfl rfl ⟨_, rfl⟩ rfl rfl rfl rfl rfl rfl rfl (.inl ⟨rfl, rfl, rfl⟩) (fun _ _ _ => RA.intv _ rfl) ?_
  conv => whnf
  repeat' (first | (refine And.intro (by first | exact rfl | decide | exact Nat.le_of_ble_eq_true rfl | exact ⟨_, rfl⟩ | exact ⟨_, _, rfl⟩ | omega | (simp only [List.length_map]; omega) | exact True.intro | (simp only [IntKind.wrap_i64, List.length_map]; omega) | (simp only [List.map_cons, List.map_nil, List.length_cons, Option.getD]; omega) | (simp only [bsz, ByteArray.size_append, List.size_toArray, List.length_cons, List.length_nil]; omega)) ?_; conv => whnf) | (refine ifB_intro (fun hA => ?_) (fun hA => ?_) <;> (try rw [hA]) <;> (conv => whnf) <;> (first | replace hA := of_decide_eq_true hA | replace hA := of_decide_eq_false hA | replace hA := eq_of_beq hA | replace hA := ne_of_beq_false hA | replace hA := bne_iff_ne.1 hA | replace hA := bne_eq_false_iff_eq.1 hA | skip) <;> (try simp only [List.length_map, cond_true, cond_false, Bool.not_eq_true', Bool.not_eq_false', beq_iff_eq, beq_eq_false_iff_ne, ne_eq] at hA)))
  refine ⟨⟨[(9002, some (.dvar 6 cs)), (9003, some (.dvar 1 ds))], ?_⟩⟩
  conv => whnf
  refine And.intro ⟨fun o h => h, fun o h => h, trivial⟩ ?_
  first | rfl | trivial
theorem caught_ctr (g : GP) (cs ds : List D) : CtrD (ax g).E 57 [.ptr 9002 0, .ptr 9003 0] [(9002, some (.dvar 6 cs)), (9003, some (.dvar 1 ds))] (.panicking Failed) (.panicking [{ v := .iface 121 (.agg #[]), recovered := true }]) (fun o => o = .ret (.tup []) [(9002, some (.dvar 6 zeroG)), (9003, some (.dvar 1 [.v (.bool false)]))]) := by
  refine CtrD.body (X := ax g) (.iface 121 (.agg #[])) (.ifc 121 (.dagg [])) _ _ _ _ 17 [9002, 9003] [] 5 2 Tryd.func57 rfl rfl rfl rfl (by decide +kernel) rfl rfl rfl ⟨_, rfl⟩ rfl rfl rfl rfl rfl rfl rfl (.inr rfl) (fun _ _ _ => .ifc _ _ _ (.dagg _ _ rfl (by simp))) ?_
  conv => whnf
  repeat' (first | (refine And.intro (by first | exact rfl | decide | exact Nat.le_of_ble_eq_true rfl | exact ⟨_, rfl⟩ | exact ⟨_, _, rfl⟩ | omega | (simp only []; omega) | exact True.intro | (simp only [IntKind.wrap_i64, List.length_map]; omega) | (simp only [List.map_cons, List.map_nil, List.length_cons, Option.getD]; omega) | (simp only [bsz, ByteArray.size_append, List.size_toArray, List.length_cons, List.length_nil]; omega)) ?_; conv => whnf) | (refine ifB_intro (fun hA => ?_) (fun hA => ?_) <;> (try rw [hA]) <;> (conv => whnf) <;> (first | replace hA := of_decide_eq_true hA | replace hA := of_decide_eq_false hA | replace hA := eq_of_beq hA | replace hA := ne_of_beq_false hA | replace hA := bne_iff_ne.1 hA | replace hA := bne_eq_false_iff_eq.1 hA | skip) <;> (try simp only [List.length_map, cond_true, cond_false, Bool.not_eq_true', Bool.not_eq_false', beq_iff_eq, beq_eq_false_iff_ne, ne_eq] at hA)))
  refine ⟨⟨[(9002, some (.dvar 6 zeroG)), (9003, some (.dvar 1 [.v (.bool false)]))], ?_⟩⟩
  conv => whnf
  refine And.intro ⟨fun o h => h, fun o h => h, trivial⟩ ?_
  first | rfl | trivial
abbrev resH (cs ds : List D) : HL := [(2, some (.dvar 6 cs)), (3, some (.dvar 1 ds))]
abbrev Caught : FrameMode := .panicking [{ v := .iface 121 (.agg #[]), recovered := true }]
theorem caught2 (g : GP) (cs ds : List D) : CtrD (ax g).E 57 [.ptr 2 0, .ptr 3 0] (resH cs ds) (.panicking Failed) Caught (fun o => o = .ret (.tup []) (resH zeroG [.v (.bool false)])) :=
  ((caught_ctr g cs ds).swapG 9002 2 (post' := fun o => o = .ret (.tup []) [(2, some (.dvar 6 zeroG)), (9003, some (.dvar 1 [.v (.bool false)]))]) (fun res ho h => by injection h with h1 h2; subst h1; subst h2; rfl) (fun ch ho h => by simp at h)).swapG 9003 3
    (fun res ho h => by injection h with h1 h2; subst h1; subst h2; rfl) (fun ch ho h => by simp at h)
theorem quiet2 (g : GP) (cs ds : List D) : CtrD (ax g).E 57 [.ptr 2 0, .ptr 3 0] (resH cs ds) .returning .returning (fun o => o = .ret (.tup []) (resH cs ds)) :=
  ((quiet_ctr g cs ds).swapG 9002 2 (post' := fun o => o = .ret (.tup []) [(2, some (.dvar 6 cs)), (9003, some (.dvar 1 ds))]) (fun res ho h => by injection h with h1 h2; subst h1; subst h2; rfl) (fun ch ho h => by simp at h)).swapG 9003 3
    (fun res ho h => by injection h with h1 h2; subst h1; subst h2; rfl) (fun ch ho h => by simp at h)
def readO : Option (ProgT × SP) → AOut
  | none => .ret (.tup [.dagg zeroG, .bool false]) []
  | some x => .ret (.tup [.dagg (rowG x.1), .bool true]) (spH x.2)
theorem read_ctr (g : GP) (N : Nat) (hN0 : N ≤ 100000) (p : SP) (hp : p.l.length ≤ N) : Ctr (ax g).E 32 [.ptr 9000 0] (spH p) (fun o => o = readO (progS p)) := by
  have hpr := program_ctr g N hN0 p hp
  refine Ctr.recov (X := ax g) [_] _ _ _ _ 7 [9000, 9001] [.cell 2 52, .cell 3 4] 57 2 3 4 Tryd.func32 rfl rfl rfl rfl (by decide +kernel) rfl rfl rfl rfl ⟨_, rfl⟩ rfl rfl rfl rfl ?_
  conv => whnf
  repeat' (first | (refine And.intro (by first | exact rfl | decide | exact Nat.le_of_ble_eq_true rfl | exact ⟨_, rfl⟩ | exact ⟨_, _, rfl⟩ | omega | (simp only [List.length_map]; omega) | exact True.intro | (simp only [IntKind.wrap_i64, List.length_map]; omega) | (simp only [List.map_cons, List.map_nil, List.length_cons, Option.getD]; omega) | (simp only [bsz, ByteArray.size_append, List.size_toArray, List.length_cons, List.length_nil]; omega)) ?_; conv => whnf) | (refine ifB_intro (fun hA => ?_) (fun hA => ?_) <;> (try rw [hA]) <;> (conv => whnf) <;> (first | replace hA := of_decide_eq_true hA | replace hA := of_decide_eq_false hA | replace hA := eq_of_beq hA | replace hA := ne_of_beq_false hA | replace hA := bne_iff_ne.1 hA | replace hA := bne_eq_false_iff_eq.1 hA | skip) <;> (try simp only [List.length_map, cond_true, cond_false, Bool.not_eq_true', Bool.not_eq_false', beq_iff_eq, beq_eq_false_iff_ne, ne_eq] at hA)) | (refine CallP.may (hpr) (by (conv => whnf); repeat' first | exact trivial | refine And.intro (fun _ h => h) ?_) (fun _ => rfl) (fun hN => ?_) (fun xS hS => ?_) <;> (conv => whnf) <;> (try refine ⟨⟨[], trivial, rfl, ?_⟩⟩)))
  · refine ⟨⟨resH zeroG [.v (.bool false)], resH zeroG [.v (.bool false)], Caught, caught2 g _ _, rfl, ?_, fun r o h => lkH_in rfl h, ?_⟩⟩
    · refine fun r o h => LeH.at (f' := resH _ _) ?_ r o h
      exact ⟨fun o h => h, fun o h => h, trivial⟩
    rw [hN]
    refine ⟨⟨[], ?_⟩⟩
    conv => whnf
    repeat' (first | (refine And.intro (by first | exact rfl | decide | exact Nat.le_of_ble_eq_true rfl | exact ⟨_, rfl⟩ | exact ⟨_, _, rfl⟩ | omega | (simp only [List.length_map]; omega) | exact True.intro | (simp only [IntKind.wrap_i64, List.length_map]; omega) | (simp only [List.map_cons, List.map_nil, List.length_cons, Option.getD]; omega) | (simp only [bsz, ByteArray.size_append, List.size_toArray, List.length_cons, List.length_nil]; omega)) ?_; conv => whnf) | (refine ifB_intro (fun hA => ?_) (fun hA => ?_) <;> (try rw [hA]) <;> (conv => whnf) <;> (first | replace hA := of_decide_eq_true hA | replace hA := of_decide_eq_false hA | replace hA := eq_of_beq hA | replace hA := ne_of_beq_false hA | replace hA := bne_iff_ne.1 hA | replace hA := bne_eq_false_iff_eq.1 hA | skip) <;> (try simp only [List.length_map, cond_true, cond_false, Bool.not_eq_true', Bool.not_eq_false', beq_iff_eq, beq_eq_false_iff_ne, ne_eq] at hA)))
    rfl
  · refine ⟨⟨resH (rowG xS.1) [.v (.bool true)], resH (rowG xS.1) [.v (.bool true)], .returning, quiet2 g _ _, rfl, ?_, fun r o h => lkH_in rfl h, ?_⟩⟩
    · refine fun r o h => LeH.at (f' := resH _ _) ?_ r o h
      exact ⟨fun o h => h, fun o h => h, trivial⟩
    rw [hS]
    refine ⟨⟨spH xS.2, ?_⟩⟩
    conv => whnf
    repeat' (first | (refine And.intro (by first | exact rfl | decide | exact Nat.le_of_ble_eq_true rfl | exact ⟨_, rfl⟩ | exact ⟨_, _, rfl⟩ | omega | (simp only []; omega) | exact True.intro | (simp only []; omega) | (simp only [List.map_cons, List.map_nil, List.length_cons]; omega) | (simp only [List.length_cons, List.length_nil]; omega)) ?_; conv => whnf) | (refine ifB_intro (fun hA => ?_) (fun hA => ?_) <;> (try rw [hA]) <;> (conv => whnf) <;> (first | replace hA := of_decide_eq_true hA | replace hA := of_decide_eq_false hA | replace hA := eq_of_beq hA | replace hA := ne_of_beq_false hA | replace hA := bne_iff_ne.1 hA | replace hA := bne_eq_false_iff_eq.1 hA | skip) <;> (try simp only [List.length_map, cond_true, cond_false, Bool.not_eq_true', Bool.not_eq_false', beq_iff_eq, beq_eq_false_iff_ne, ne_eq] at hA)) | (refine And.intro ⟨fun o h => h, fun o h => h, trivial⟩ ?_; conv => whnf))
    rfl
end Go.Ax
namespace Go.Ax
open Go.Proofs Go.Lib
set_option maxRecDepth 10000
theorem tokV_ctr (g : GP) (hg : ∀ w, g.G w → LibG w) (s : ByteArray) (hs : s.size < 2 ^ 62) : Ctr (ax g).E 31 [.str s] [] (fun o => o = .ret (tokAV (tokensF vS s)) []) :=
  tokens_ctr g hg vS (fun s h => valid_ctr g hg s (by omega)) s hs
theorem wt_len (l : List TokT) : l.length ≤ wt l := by
  induction l with
  | nil => simp
  | cons t l ih => rw [show t :: l = [t] ++ l from rfl, wt_app, wt_one, List.length_append]; simp; omega
theorem tok_some {s : ByteArray} {m : List TokT} {e : Int} (h : tokensF vS s = (some m, e)) : e = 0 ∧ s.size ≤ 4000 ∧ ∃ l, m = l ++ [noTok] ∧ (∀ t ∈ l, TokOk t) ∧ wt l ≤ 6 * s.size ∧ l.length ≤ 6 * s.size := by
  have hs : s.size ≤ 4000 := by
    rcases Nat.lt_or_ge 4000 s.size with h1 | h1
    · rw [tokensF, if_pos h1] at h; exact absurd h (by simp)
    · exact h1
  rw [tokensF_T s hs] at h
  cases hv : vS s with
  | false => rw [hv, if_pos rfl] at h; exact absurd h (by simp)
  | true =>
    rw [hv, if_neg (by simp)] at h
    obtain ⟨l, h1, h2, h3⟩ := tokT_ok _ (chunks s.data.toList) [] (Nat.le_refl _) (good_chunks _) (by rw [← valid_chunks]; exact hv) (fun t ht => by simp at ht) m e h
    have he : e = 0 := by
      rcases tokT_ends _ (chunks s.data.toList) [] (Nat.le_refl _) with ⟨k, g⟩ | ⟨f, g, _⟩
      · rw [g] at h; injection h with _ h; exact h.symm
      · rw [g] at h; exact absurd h (by simp)
    rw [flat_chunks, len_data] at h3
    have h4 : wt l ≤ 6 * s.size := by simpa [wt] using h3
    exact ⟨he, hs, l, h1, h2, h4, by have := wt_len l; omega⟩
end Go.Ax
namespace Go.Ax
open Go.Proofs Go.Lib
set_option maxRecDepth 10000
def sp0 (l : List TokT) : SP := ⟨l ++ [noTok], ⟨_, rfl⟩, [], false, false⟩
def sp21H (p : SP) : HL := [(21, some (.var [.d (.sl false 3 (p.l.map rowK)), .mp 19, .bool p.unk, .bool p.twi])), (19, some (.map false (p.ns.map entN)))]
def spM (p : SP) : HL := [(21, some (objSP p)), (9001, some (.map false (p.ns.map entN)))]
def readAt (h : SP → HL) : Option (ProgT × SP) → AOut
  | none => .ret (.tup [.dagg zeroG, .bool false]) []
  | some x => .ret (.tup [.dagg (rowG x.1), .bool true]) (h x.2)
theorem readM (g : GP) (N : Nat) (hN0 : N ≤ 100000) (p : SP) (hp : p.l.length ≤ N) : Ctr (ax g).E 32 [.ptr 21 0] (spM p) (fun o => o = readAt spM (progS p)) :=
  (read_ctr g N hN0 p hp).swapG 21 9000
    (fun res ho h => by
      cases hs : progS p with
      | none => rw [hs] at h; injection h with h1 h2; subst h1; subst h2; rfl
      | some x => rw [hs] at h; injection h with h1 h2; subst h1; subst h2; rfl)
    (fun ch ho h => by cases hs : progS p with
      | none => rw [hs] at h; exact absurd h (by simp [readO])
      | some x => rw [hs] at h; exact absurd h (by simp [readO]))
theorem read21 (g : GP) (N : Nat) (hN0 : N ≤ 100000) (p : SP) (hp : p.l.length ≤ N) : Ctr (ax g).E 32 [.ptr 21 0] (sp21H p) (fun o => o = readAt sp21H (progS p)) :=
  (readM g N hN0 p hp).swapG 19 9001
    (fun res ho h => by
      cases hs : progS p with
      | none => rw [hs] at h; injection h with h1 h2; subst h1; subst h2; rfl
      | some x => rw [hs] at h; injection h with h1 h2; subst h1; subst h2; rfl)
    (fun ch ho h => by cases hs : progS p with
      | none => rw [hs] at h; exact absurd h (by simp [readAt])
      | some x => rw [hs] at h; exact absurd h (by simp [readAt]))
def resS : Option (ProgT × SP) → Option ProgT × Int
  | none => (none, 10)
  | some (x, q) => if q.unk = true then (none, 12) else if q.twi = true then (none, 11) else if checkP x = 0 then (some x, 0) else (none, checkP x)
def resAV : Option ProgT × Int → AV
  | (none, e) => .tup [.dagg zeroG, .i64 e]
  | (some x, e) => .tup [.dagg (rowG x), .i64 e]
def parseS (s : ByteArray) : Option ProgT × Int := match tokensF vS s with
  | (none, e) => (none, e)
  | (some m, _) => resS (progS (sp0 m.dropLast))
structure FitP (s : ByteArray) : Prop where
  small : ∀ l e, tokensF vS s = (some (l ++ [noTok]), e) → ∀ x q, progS (sp0 l) = some (x, q) → SmallG x
theorem tok_none5 {s : ByteArray} {e : Int} (hs : s.size ≤ 4000) (h : tokensF vS s = (none, e)) : e ≠ 0 := by
  rw [tokensF_T s hs] at h
  split at h
  · injection h with _ h; omega
  · rcases tokT_ends _ (chunks s.data.toList) [] (Nat.le_refl _) with ⟨k, g⟩ | ⟨f, g, hf⟩
    · rw [g] at h; exact absurd h (by simp)
    · rw [g] at h; injection h with _ h; omega
theorem tok_err {s : ByteArray} {e : Int} (h : tokensF vS s = (none, e)) : e ≠ 0 := by
  by_cases hs : s.size ≤ 4000
  · exact tok_none5 hs h
  · rw [tokensF, if_pos (by omega)] at h
    injection h with _ h; omega
theorem parse5_ctr (g : GP) (hg : ∀ w, g.G w → LibG w) (s : ByteArray) (hs : s.size < 2 ^ 62) (hf : FitP s) : Ctr (ax g).E 20 [.str s] [] (fun o => o = .ret (resAV (parseS s)) []) := by
  have ht := tokV_ctr g hg s hs
  refine Ctr.body (X := ax g) _ 47 [] [.cell 2 52, .tmp 3] Tryd.func20 rfl rfl rfl rfl (by decide +kernel) rfl rfl ?_
  conv => whnf
  cases hT : tokensF vS s with
  | mk l e =>
    rw [hT] at ht
    cases l with
    | none =>
      have he := tok_err hT
      have hP : parseS s = (none, e) := by rw [parseS, hT]
      rw [hP]
      repeat' (first | (refine And.intro (by first | exact rfl | decide | exact Nat.le_of_ble_eq_true rfl | exact ⟨_, rfl⟩ | exact ⟨_, _, rfl⟩ | exact Nat.le_refl _ | exact Int.le_refl _ | omega | (simp only []; omega) | exact True.intro | (simp only [IntKind.wrap_i64, List.length_map]; omega) | (simp only [List.map_cons, List.map_nil, List.length_cons, Option.getD]; omega) | (simp only [bsz, ByteArray.size_append, List.size_toArray, List.length_cons, List.length_nil]; omega) | exact ⟨⟨_, _, rfl, rfl, Nat.le_of_ble_eq_true rfl⟩, trivial⟩ | exact ⟨⟨_, _, rfl, rfl, Nat.le_of_ble_eq_true rfl⟩, ⟨_, _, rfl, rfl, Nat.le_of_ble_eq_true rfl⟩, trivial⟩ | exact ⟨⟨_, _, rfl, rfl, Nat.le_of_ble_eq_true rfl⟩, ⟨_, _, rfl, rfl, Nat.le_of_ble_eq_true rfl⟩, ⟨_, _, rfl, rfl, Nat.le_of_ble_eq_true rfl⟩, trivial⟩) ?_; conv => whnf) | (refine ifB_intro (fun hA => ?_) (fun hA => ?_) <;> (try rw [hA]) <;> (conv => whnf) <;> (first | replace hA := of_decide_eq_true hA | replace hA := of_decide_eq_false hA | replace hA := eq_of_beq hA | replace hA := ne_of_beq_false hA | replace hA := bne_iff_ne.1 hA | replace hA := bne_eq_false_iff_eq.1 hA | skip) <;> (try simp only [ne_eq] at hA)) | (refine CallP.det (ht) ?_; conv => whnf) | (refine CallD.det (ht) ?_; conv => whnf) | (rw [getD_map _ _ _ _ (by assumption)]; conv => whnf))
      all_goals first | exact absurd hA he | (refine ⟨⟨[], ?_⟩⟩; conv => whnf
                                              repeat' (first | (refine And.intro (by first | exact rfl | decide | exact Nat.le_of_ble_eq_true rfl | exact ⟨_, rfl⟩ | exact ⟨_, _, rfl⟩ | exact Nat.le_refl _ | exact Int.le_refl _ | omega | (simp only [List.length_map]; omega) | exact True.intro | (simp only [IntKind.wrap_i64, List.length_map]; omega) | (simp only [List.map_cons, List.map_nil, List.length_cons, Option.getD]; omega) | (simp only [bsz, ByteArray.size_append, List.size_toArray, List.length_cons, List.length_nil]; omega) | exact ⟨⟨_, _, rfl, rfl, Nat.le_of_ble_eq_true rfl⟩, trivial⟩ | exact ⟨⟨_, _, rfl, rfl, Nat.le_of_ble_eq_true rfl⟩, ⟨_, _, rfl, rfl, Nat.le_of_ble_eq_true rfl⟩, trivial⟩ | exact ⟨⟨_, _, rfl, rfl, Nat.le_of_ble_eq_true rfl⟩, ⟨_, _, rfl, rfl, Nat.le_of_ble_eq_true rfl⟩, ⟨_, _, rfl, rfl, Nat.le_of_ble_eq_true rfl⟩, trivial⟩) ?_; conv => whnf) | (refine ifB_intro (fun hA => ?_) (fun hA => ?_) <;> (try rw [hA]) <;> (conv => whnf) <;> (first | replace hA := of_decide_eq_true hA | replace hA := of_decide_eq_false hA | replace hA := eq_of_beq hA | replace hA := ne_of_beq_false hA | replace hA := bne_iff_ne.1 hA | replace hA := bne_eq_false_iff_eq.1 hA | skip) <;> (try simp only [List.length_map, cond_true, cond_false, Bool.not_eq_true', Bool.not_eq_false', beq_iff_eq, beq_eq_false_iff_ne, ne_eq] at hA)) | (rw [getD_map _ _ _ _ (by assumption)]; conv => whnf))
                                              rfl)
    | some m =>
      obtain ⟨he, hs4, l, rfl, hl⟩ := tok_some hT
      have hP : parseS s = resS (progS (sp0 l)) := by rw [parseS, hT]; simp
      have hsm := hf.small _ _ hT
      have hr := read21 g 24001 (by decide) (sp0 l) (by simp [sp0]; omega)
      rw [hP]
      cases hS : progS (sp0 l) with
      | none =>
        rw [hS] at hr
        repeat' (first | (refine And.intro (by first | exact rfl | decide | exact Nat.le_of_ble_eq_true rfl | exact ⟨_, rfl⟩ | exact ⟨_, _, rfl⟩ | exact Nat.le_refl _ | exact Int.le_refl _ | omega | (simp only []; omega) | exact True.intro | (simp only []; omega) | (simp only [List.map_cons, List.map_nil, List.length_cons]; omega) | (simp only [List.length_cons, List.length_nil]; omega) | exact ⟨⟨_, _, rfl, rfl, Nat.le_of_ble_eq_true rfl⟩, trivial⟩ | exact ⟨⟨_, _, rfl, rfl, Nat.le_of_ble_eq_true rfl⟩, ⟨_, _, rfl, rfl, Nat.le_of_ble_eq_true rfl⟩, trivial⟩ | exact ⟨⟨_, _, rfl, rfl, Nat.le_of_ble_eq_true rfl⟩, ⟨_, _, rfl, rfl, Nat.le_of_ble_eq_true rfl⟩, ⟨_, _, rfl, rfl, Nat.le_of_ble_eq_true rfl⟩, trivial⟩) ?_; conv => whnf) | (refine ifB_intro (fun hA => ?_) (fun hA => ?_) <;> (try rw [hA]) <;> (conv => whnf) <;> (first | replace hA := of_decide_eq_true hA | replace hA := of_decide_eq_false hA | replace hA := eq_of_beq hA | replace hA := ne_of_beq_false hA | replace hA := bne_iff_ne.1 hA | replace hA := bne_eq_false_iff_eq.1 hA | skip) <;> (try simp only [ne_eq] at hA)) | (refine CallP.det (ht) ?_; conv => whnf) | (refine CallD.det (ht) ?_; conv => whnf) | (refine CallP.hlb (hr) (by (conv => whnf); repeat' first | exact trivial | refine And.intro (fun _ h => h) ?_) rfl ?_; conv => whnf) | (refine CallD.hlb (hr) (by (conv => whnf); repeat' first | exact trivial | refine And.intro (fun _ h => h) ?_) ?_; conv => whnf) | (rw [getD_map _ _ _ _ (by assumption)]; conv => whnf))
        all_goals first | exact absurd he hA | (refine ⟨⟨[], ?_⟩⟩; conv => whnf
                                                repeat' (first | (refine And.intro (by first | exact rfl | decide | exact Nat.le_of_ble_eq_true rfl | exact ⟨_, rfl⟩ | exact ⟨_, _, rfl⟩ | exact Nat.le_refl _ | exact Int.le_refl _ | omega | (simp only [List.length_map]; omega) | exact True.intro | (simp only [IntKind.wrap_i64, List.length_map]; omega) | (simp only [List.map_cons, List.map_nil, List.length_cons, Option.getD]; omega) | (simp only [bsz, ByteArray.size_append, List.size_toArray, List.length_cons, List.length_nil]; omega) | exact ⟨⟨_, _, rfl, rfl, Nat.le_of_ble_eq_true rfl⟩, trivial⟩ | exact ⟨⟨_, _, rfl, rfl, Nat.le_of_ble_eq_true rfl⟩, ⟨_, _, rfl, rfl, Nat.le_of_ble_eq_true rfl⟩, trivial⟩ | exact ⟨⟨_, _, rfl, rfl, Nat.le_of_ble_eq_true rfl⟩, ⟨_, _, rfl, rfl, Nat.le_of_ble_eq_true rfl⟩, ⟨_, _, rfl, rfl, Nat.le_of_ble_eq_true rfl⟩, trivial⟩) ?_; conv => whnf) | (refine ifB_intro (fun hA => ?_) (fun hA => ?_) <;> (try rw [hA]) <;> (conv => whnf) <;> (first | replace hA := of_decide_eq_true hA | replace hA := of_decide_eq_false hA | replace hA := eq_of_beq hA | replace hA := ne_of_beq_false hA | replace hA := bne_iff_ne.1 hA | replace hA := bne_eq_false_iff_eq.1 hA | skip) <;> (try simp only [List.length_map, cond_true, cond_false, Bool.not_eq_true', Bool.not_eq_false', beq_iff_eq, beq_eq_false_iff_ne, ne_eq] at hA)) | (rw [getD_map _ _ _ _ (by assumption)]; conv => whnf))
                                                rfl)
      | some xq =>
        obtain ⟨x, q⟩ := xq
        rw [hS] at hr
        have hc := check5_ctr g x (hsm x q hS)
        have r1 : q.unk = true → resS (some (x, q)) = (none, 12) := fun h => by simp [resS, h]
        have r2 : q.unk = false → q.twi = true → resS (some (x, q)) = (none, 11) := fun h h' => by simp [resS, h, h']
        have r3 : q.unk = false → q.twi = false → ¬checkP x = 0 → resS (some (x, q)) = (none, checkP x) := fun h h' h2 => by simp [resS, h, h', h2]
        have r4 : q.unk = false → q.twi = false → checkP x = 0 → resS (some (x, q)) = (some x, 0) := fun h h' h2 => by simp [resS, h, h', h2]
        repeat' (first | (refine And.intro (by first | exact rfl | decide | exact Nat.le_of_ble_eq_true rfl | exact ⟨_, rfl⟩ | exact ⟨_, _, rfl⟩ | exact Nat.le_refl _ | exact Int.le_refl _ | omega | (simp only []; omega) | exact True.intro | (simp only []; omega) | (simp only [List.map_cons, List.map_nil, List.length_cons]; omega) | (simp only [List.length_cons, List.length_nil]; omega) | exact ⟨⟨_, _, rfl, rfl, Nat.le_of_ble_eq_true rfl⟩, trivial⟩ | exact ⟨⟨_, _, rfl, rfl, Nat.le_of_ble_eq_true rfl⟩, ⟨_, _, rfl, rfl, Nat.le_of_ble_eq_true rfl⟩, trivial⟩ | exact ⟨⟨_, _, rfl, rfl, Nat.le_of_ble_eq_true rfl⟩, ⟨_, _, rfl, rfl, Nat.le_of_ble_eq_true rfl⟩, ⟨_, _, rfl, rfl, Nat.le_of_ble_eq_true rfl⟩, trivial⟩) ?_; conv => whnf) | (refine ifB_intro (fun hA => ?_) (fun hA => ?_) <;> (try rw [hA]) <;> (conv => whnf) <;> (first | replace hA := of_decide_eq_true hA | replace hA := of_decide_eq_false hA | replace hA := eq_of_beq hA | replace hA := ne_of_beq_false hA | replace hA := bne_iff_ne.1 hA | replace hA := bne_eq_false_iff_eq.1 hA | skip) <;> (try simp only [ne_eq] at hA)) | (refine CallP.det (ht) ?_; conv => whnf) | (refine CallD.det (ht) ?_; conv => whnf) | (refine CallP.hlb (hr) (by (conv => whnf); repeat' first | exact trivial | refine And.intro (fun _ h => h) ?_) rfl ?_; conv => whnf) | (refine CallD.hlb (hr) (by (conv => whnf); repeat' first | exact trivial | refine And.intro (fun _ h => h) ?_) ?_; conv => whnf) | (refine CallP.det (hc) ?_; conv => whnf) | (refine CallD.det (hc) ?_; conv => whnf) | (rw [getD_map _ _ _ _ (by assumption)]; conv => whnf))
        all_goals first
          | exact absurd he ‹_›
          | (rw [r1 ‹_›]
             refine ⟨⟨[], ?_⟩⟩; conv => whnf
             repeat' (first | (refine And.intro (by first | exact rfl | decide | exact Nat.le_of_ble_eq_true rfl | exact ⟨_, rfl⟩ | exact ⟨_, _, rfl⟩ | exact Nat.le_refl _ | exact Int.le_refl _ | omega | (simp only [List.length_map]; omega) | exact True.intro | (simp only [IntKind.wrap_i64, List.length_map]; omega) | (simp only [List.map_cons, List.map_nil, List.length_cons, Option.getD]; omega) | (simp only [bsz, ByteArray.size_append, List.size_toArray, List.length_cons, List.length_nil]; omega) | exact ⟨⟨_, _, rfl, rfl, Nat.le_of_ble_eq_true rfl⟩, trivial⟩ | exact ⟨⟨_, _, rfl, rfl, Nat.le_of_ble_eq_true rfl⟩, ⟨_, _, rfl, rfl, Nat.le_of_ble_eq_true rfl⟩, trivial⟩ | exact ⟨⟨_, _, rfl, rfl, Nat.le_of_ble_eq_true rfl⟩, ⟨_, _, rfl, rfl, Nat.le_of_ble_eq_true rfl⟩, ⟨_, _, rfl, rfl, Nat.le_of_ble_eq_true rfl⟩, trivial⟩) ?_; conv => whnf) | (refine ifB_intro (fun hA => ?_) (fun hA => ?_) <;> (try rw [hA]) <;> (conv => whnf) <;> (first | replace hA := of_decide_eq_true hA | replace hA := of_decide_eq_false hA | replace hA := eq_of_beq hA | replace hA := ne_of_beq_false hA | replace hA := bne_iff_ne.1 hA | replace hA := bne_eq_false_iff_eq.1 hA | skip) <;> (try simp only [List.length_map, cond_true, cond_false, Bool.not_eq_true', Bool.not_eq_false', beq_iff_eq, beq_eq_false_iff_ne, ne_eq] at hA)) | (rw [getD_map _ _ _ _ (by assumption)]; conv => whnf))
             rfl)
          | (rw [r2 ‹_› ‹_›]
             refine ⟨⟨[], ?_⟩⟩; conv => whnf
             repeat' (first | (refine And.intro (by first | exact rfl | decide | exact Nat.le_of_ble_eq_true rfl | exact ⟨_, rfl⟩ | exact ⟨_, _, rfl⟩ | exact Nat.le_refl _ | exact Int.le_refl _ | omega | (simp only [List.length_map]; omega) | exact True.intro | (simp only [IntKind.wrap_i64, List.length_map]; omega) | (simp only [List.map_cons, List.map_nil, List.length_cons, Option.getD]; omega) | (simp only [bsz, ByteArray.size_append, List.size_toArray, List.length_cons, List.length_nil]; omega) | exact ⟨⟨_, _, rfl, rfl, Nat.le_of_ble_eq_true rfl⟩, trivial⟩ | exact ⟨⟨_, _, rfl, rfl, Nat.le_of_ble_eq_true rfl⟩, ⟨_, _, rfl, rfl, Nat.le_of_ble_eq_true rfl⟩, trivial⟩ | exact ⟨⟨_, _, rfl, rfl, Nat.le_of_ble_eq_true rfl⟩, ⟨_, _, rfl, rfl, Nat.le_of_ble_eq_true rfl⟩, ⟨_, _, rfl, rfl, Nat.le_of_ble_eq_true rfl⟩, trivial⟩) ?_; conv => whnf) | (refine ifB_intro (fun hA => ?_) (fun hA => ?_) <;> (try rw [hA]) <;> (conv => whnf) <;> (first | replace hA := of_decide_eq_true hA | replace hA := of_decide_eq_false hA | replace hA := eq_of_beq hA | replace hA := ne_of_beq_false hA | replace hA := bne_iff_ne.1 hA | replace hA := bne_eq_false_iff_eq.1 hA | skip) <;> (try simp only [List.length_map, cond_true, cond_false, Bool.not_eq_true', Bool.not_eq_false', beq_iff_eq, beq_eq_false_iff_ne, ne_eq] at hA)) | (rw [getD_map _ _ _ _ (by assumption)]; conv => whnf))
             rfl)
          | (rw [r3 ‹_› ‹_› ‹_›]
             refine ⟨⟨[], ?_⟩⟩; conv => whnf
             repeat' (first | (refine And.intro (by first | exact rfl | decide | exact Nat.le_of_ble_eq_true rfl | exact ⟨_, rfl⟩ | exact ⟨_, _, rfl⟩ | exact Nat.le_refl _ | exact Int.le_refl _ | omega | (simp only [List.length_map]; omega) | exact True.intro | (simp only [IntKind.wrap_i64, List.length_map]; omega) | (simp only [List.map_cons, List.map_nil, List.length_cons, Option.getD]; omega) | (simp only [bsz, ByteArray.size_append, List.size_toArray, List.length_cons, List.length_nil]; omega) | exact ⟨⟨_, _, rfl, rfl, Nat.le_of_ble_eq_true rfl⟩, trivial⟩ | exact ⟨⟨_, _, rfl, rfl, Nat.le_of_ble_eq_true rfl⟩, ⟨_, _, rfl, rfl, Nat.le_of_ble_eq_true rfl⟩, trivial⟩ | exact ⟨⟨_, _, rfl, rfl, Nat.le_of_ble_eq_true rfl⟩, ⟨_, _, rfl, rfl, Nat.le_of_ble_eq_true rfl⟩, ⟨_, _, rfl, rfl, Nat.le_of_ble_eq_true rfl⟩, trivial⟩) ?_; conv => whnf) | (refine ifB_intro (fun hA => ?_) (fun hA => ?_) <;> (try rw [hA]) <;> (conv => whnf) <;> (first | replace hA := of_decide_eq_true hA | replace hA := of_decide_eq_false hA | replace hA := eq_of_beq hA | replace hA := ne_of_beq_false hA | replace hA := bne_iff_ne.1 hA | replace hA := bne_eq_false_iff_eq.1 hA | skip) <;> (try simp only [List.length_map, cond_true, cond_false, Bool.not_eq_true', Bool.not_eq_false', beq_iff_eq, beq_eq_false_iff_ne, ne_eq] at hA)) | (rw [getD_map _ _ _ _ (by assumption)]; conv => whnf))
             rfl)
          | (rw [r4 ‹_› ‹_› ‹_›]
             refine ⟨⟨[], ?_⟩⟩; conv => whnf
             repeat' (first | (refine And.intro (by first | exact rfl | decide | exact Nat.le_of_ble_eq_true rfl | exact ⟨_, rfl⟩ | exact ⟨_, _, rfl⟩ | exact Nat.le_refl _ | exact Int.le_refl _ | omega | (simp only [List.length_map]; omega) | exact True.intro | (simp only [IntKind.wrap_i64, List.length_map]; omega) | (simp only [List.map_cons, List.map_nil, List.length_cons, Option.getD]; omega) | (simp only [bsz, ByteArray.size_append, List.size_toArray, List.length_cons, List.length_nil]; omega) | exact ⟨⟨_, _, rfl, rfl, Nat.le_of_ble_eq_true rfl⟩, trivial⟩ | exact ⟨⟨_, _, rfl, rfl, Nat.le_of_ble_eq_true rfl⟩, ⟨_, _, rfl, rfl, Nat.le_of_ble_eq_true rfl⟩, trivial⟩ | exact ⟨⟨_, _, rfl, rfl, Nat.le_of_ble_eq_true rfl⟩, ⟨_, _, rfl, rfl, Nat.le_of_ble_eq_true rfl⟩, ⟨_, _, rfl, rfl, Nat.le_of_ble_eq_true rfl⟩, trivial⟩) ?_; conv => whnf) | (refine ifB_intro (fun hA => ?_) (fun hA => ?_) <;> (try rw [hA]) <;> (conv => whnf) <;> (first | replace hA := of_decide_eq_true hA | replace hA := of_decide_eq_false hA | replace hA := eq_of_beq hA | replace hA := ne_of_beq_false hA | replace hA := bne_iff_ne.1 hA | replace hA := bne_eq_false_iff_eq.1 hA | skip) <;> (try simp only [List.length_map, cond_true, cond_false, Bool.not_eq_true', Bool.not_eq_false', beq_iff_eq, beq_eq_false_iff_ne, ne_eq] at hA)) | (rw [getD_map _ _ _ _ (by assumption)]; conv => whnf))
             rfl)
end Go.Ax
namespace Go.Ax
open Go.Proofs
set_option maxRecDepth 10000
theorem insIn_rise {l : List PairT} (hr : Rise l) (a : Nat) : ∀ j, j < l.length → insIn a j l = l
  | 0, _ => rfl
  | j + 1, h => by
    rw [insIn, if_neg]
    rintro ⟨_, h2⟩
    have := hr j h
    have h3 := of_decide_eq_true h2
    have h4 : (l.getD (j + 1) (0, 0)).1 < (l.getD j (0, 0)).1 := h3
    omega
theorem insN_rise {l : List PairT} (hr : Rise l) (a : Nat) : ∀ k, a + k < l.length ∨ k = 0 → insN l a k = l
  | 0, _ => rfl
  | k + 1, h => by
    rw [insN, insN_rise hr a k (by omega)]
    exact insIn_rise hr a _ (by omega)
theorem sortP_rise {l : List PairT} (h : l.length < 20) (hr : Rise l) : sortP l = l := by
  have hb : blkF l.length l 0 = (l, 0) := by
    cases hn : l.length with
    | zero => rfl
    | succ n => rw [blkF, if_neg (by omega)]
  have hi : insF l 0 l.length = l := by
    unfold insF
    exact insN_rise hr 0 _ (by omega)
  unfold sortP
  rw [hb]
  dsimp only
  rw [hi]
  cases hn : l.length with
  | zero => rfl
  | succ n => rw [rndsF, if_neg (by omega)]
end Go.Ax
namespace Go.Ax
open Go.Proofs Go.Lib
set_option maxRecDepth 10000
theorem rises_low {b : Int} {l : List PairT} (h : risesF b l = true) : ∀ i, i < l.length → (i : Int) ≤ (l.getD i (0, 0)).1
  | 0, hi => by
    have := alln_at h hi
    simp [risesAt] at this
    simpa using this.1
  | i + 1, hi => by
    have ih := rises_low h i (by omega)
    have := alln_at h hi
    simp [risesAt] at this
    have h2 : (l.getD i (0, 0)).1 < (l.getD (i + 1) (0, 0)).1 := by simpa using this.2
    omega
theorem rises_len {b : Int} {l : List PairT} (h : risesF b l = true) (hb : 0 ≤ b) : (l.length : Int) ≤ b := by
  cases hl : l.length with
  | zero => omega
  | succ n =>
    have h1 := rises_low h n (by omega)
    have := alln_at h (show n < l.length by omega)
    simp [risesAt] at this
    have h2 : (l.getD n (0, 0)).1 < b := by simpa using this.1.2
    omega
theorem rises_lt {b : Int} {l : List PairT} (h : risesF b l = true) (i : Nat) (hi : i + 1 < l.length) : (l.getD i (0, 0)).1 < (l.getD (i + 1) (0, 0)).1 := by
  have := alln_at h hi
  simp [risesAt] at this
  simpa using this.2
theorem rises_ok {b : Int} {l : List PairT} (h : risesF b l = true) (hb : 0 ≤ b ∧ b < 20) : OkL l := by
  have := rises_len h hb.1
  exact ⟨by omega, fun i hi => by have := rises_lt h i hi; omega⟩
theorem rises_dup {b : Int} {l : List PairT} (h : risesF b l = true) : dupS l = false := by
  have key : ∀ n, n ≤ l.length - 1 → dupGo l n = false := by
    intro n
    induction n with
    | zero => intro _; rfl
    | succ n ih =>
      intro hn
      rw [dupGo, ih (by omega)]
      have := rises_lt h n (by omega)
      unfold dupAt
      rw [decide_eq_false (by omega)]; rfl
  exact key _ (Nat.le_refl _)
theorem must_yes {t : TokT} {R : List TokT} (hk : t.kind = 1 ∨ t.kind = 3) (h : EndT (t :: R)) (hR : EndT R) : mustS t.s (mkS (t :: R) h) = some (mkS R hR) := by
  rw [mustS, take_yes hk h hR]; rfl
def condT (c : Bool × PairT) : List TokT := if c.1 then [tM ⟨#[64]⟩, tN c.2.1, tM ⟨#[61]⟩, tN c.2.2] else [tW (nameF c.2.1), tM ⟨#[61]⟩, tN c.2.2]
def OkC (c : Bool × PairT) : Prop := 0 ≤ c.2.1 ∧ c.2.1 < if c.1 then 60000 else 8
theorem cond_field (f n : Int) (hf : 0 ≤ f ∧ f < 8) (R : List TokT) (hR : EndT R) (h : EndT (tW (nameF f) :: tM ⟨#[61]⟩ :: tN n :: R)) : condS (mkS (tW (nameF f) :: tM ⟨#[61]⟩ :: tN n :: R) h) = some ((false, (f, n)), mkS R hR) := by
  obtain rfl | rfl | rfl | rfl | rfl | rfl | rfl | rfl : f = 0 ∨ f = 1 ∨ f = 2 ∨ f = 3 ∨ f = 4 ∨ f = 5 ∨ f = 6 ∨ f = 7 := by omega
  all_goals rfl
theorem cond_part (f n : Int) (R : List TokT) (hR : EndT R) (h : EndT (tM ⟨#[64]⟩ :: tN f :: tM ⟨#[61]⟩ :: tN n :: R)) : condS (mkS (tM ⟨#[64]⟩ :: tN f :: tM ⟨#[61]⟩ :: tN n :: R) h) = some ((true, (IntKind.i64.wrap f, n)), mkS R hR) := rfl
theorem cond_eq {c : Bool × PairT} (hc : OkC c) (R : List TokT) (hR : EndT R) (h : EndT (condT c ++ R)) : condS (mkS (condT c ++ R) h) = some (c, mkS R hR) := by
  obtain ⟨b, f, n⟩ := c
  cases b with
  | false => exact cond_field f n hc R hR h
  | true =>
    have hc : 0 ≤ f ∧ f < 60000 := hc
    have := cond_part f n R hR h
    rw [show IntKind.i64.wrap f = f from i64_wrap (by omega) (by omega)] at this
    exact this
def whensOf (l : List (Bool × PairT)) : List PairT := (l.filter (!·.1)).map (·.2)
def guardsOf (l : List (Bool × PairT)) : List PairT := (l.filter (·.1)).map (·.2)
theorem conds_go {R : List TokT} (hR : EndT R) (hno : takeS ampB (mkS R hR) = (false, mkS R hR)) : ∀ (cs : List (Bool × PairT)) (c : Bool × PairT) (w g : List PairT) (n : Nat) (h : EndT (condT c ++ ((cs.flatMap fun x => tM ⟨#[38]⟩ :: condT x) ++ R))), (∀ x ∈ c :: cs, OkC x) → cs.length < n →
    condsGo n w g (mkS (condT c ++ ((cs.flatMap fun x => tM ⟨#[38]⟩ :: condT x) ++ R)) h) = some ((w ++ whensOf (c :: cs), g ++ guardsOf (c :: cs)), mkS R hR)
  | [], c, w, g, n, h, hok, hn => by
    obtain ⟨n, rfl⟩ : ∃ m, n = m + 1 := ⟨n - 1, by omega⟩
    have e := cond_eq (hok c (by simp)) R hR h
    rw [condsGo, show condS (mkS (condT c ++ (([].flatMap fun x => tM ⟨#[38]⟩ :: condT x) ++ R)) h) = some (c, mkS R hR) from e]
    obtain ⟨b, x⟩ := c
    dsimp only
    rw [hno]
    cases b <;> simp [whensOf, guardsOf]
  | d :: cs, c, w, g, n, h, hok, hn => by
    obtain ⟨n, rfl⟩ : ∃ m, n = m + 1 := ⟨n - 1, by omega⟩
    have e0 : (((d :: cs).flatMap fun x => tM ⟨#[38]⟩ :: condT x) ++ R) = tM ⟨#[38]⟩ :: (condT d ++ ((cs.flatMap fun x => tM ⟨#[38]⟩ :: condT x) ++ R)) := by simp
    have hE : EndT (condT d ++ ((cs.flatMap fun x => tM ⟨#[38]⟩ :: condT x) ++ R)) := (hR.app _).app _
    have hE2 : EndT (((d :: cs).flatMap fun x => tM ⟨#[38]⟩ :: condT x) ++ R) := hR.app _
    have ht : takeS ampB (mkS (((d :: cs).flatMap fun x => tM ⟨#[38]⟩ :: condT x) ++ R) hE2) = (true, mkS _ hE) := by
      rw [mkS_eq e0 hE2 (e0 ▸ hE2)]
      exact take_yes (t := tM ⟨#[38]⟩) (.inr rfl) _ hE
    rw [condsGo, cond_eq (hok c (by simp)) _ hE2 h]
    have ih := fun w g => conds_go hR hno cs d w g n hE (fun x hx => hok x (List.mem_cons_of_mem _ hx)) (by simp at hn; omega)
    obtain ⟨b, x⟩ := c
    dsimp only
    rw [ht]
    show (if true = true then _ else _) = _
    rw [if_pos rfl, ih]
    cases b <;> simp [whensOf, guardsOf]
def asks (r : RuleT) : List (Bool × PairT) := r.when.map (fun p => (false, p)) ++ r.guard.map (fun p => (true, p))
theorem filter_all {α : Type} (l : List α) : l.filter (fun _ => true) = l := List.filter_eq_self.2 (by simp)
theorem filter_no {α : Type} (l : List α) : l.filter (fun _ => false) = [] := List.filter_eq_nil_iff.2 (by simp)
theorem whens_asks (r : RuleT) : whensOf (asks r) = r.when := by simp [whensOf, asks, List.filter_append, List.filter_map, Function.comp_def, filter_all, filter_no]
theorem guards_asks (r : RuleT) : guardsOf (asks r) = r.guard := by simp [guardsOf, asks, List.filter_append, List.filter_map, Function.comp_def, filter_all, filter_no]
def sepT (sg : TokT) {α : Type} (f : α → List TokT) : List α → List TokT
  | [] => []
  | c :: cs => f c ++ cs.flatMap fun x => sg :: f x
def makeT (p : PairT) : List TokT := [tM ⟨#[64]⟩, tN p.1, tM ⟨#[58, 61]⟩, tN p.2]
def ruleT (r : RuleT) : List TokT := sepT (tM ⟨#[38]⟩) condT (asks r) ++ tM ⟨#[61, 62]⟩ :: (sepT (tM ⟨#[38]⟩) makeT r.thn ++ [tM ⟨#[46]⟩])
theorem amp_arr (R : List TokT) (h : EndT (tM ⟨#[61, 62]⟩ :: R)) : takeS ampB (mkS (tM ⟨#[61, 62]⟩ :: R) h) = (false, mkS (tM ⟨#[61, 62]⟩ :: R) h) := take_no (fun _ => by decide) (by decide) h
theorem amp_dot (R : List TokT) (h : EndT (tM ⟨#[46]⟩ :: R)) : takeS ampB (mkS (tM ⟨#[46]⟩ :: R) h) = (false, mkS (tM ⟨#[46]⟩ :: R) h) := take_no (fun _ => by decide) (by decide) h
theorem rule_eq {k : Int} (hk : 0 ≤ k ∧ k ≤ 4) {r : RuleT} (hr : ruleOk k r = true) (R : List TokT) (hR : EndT R) (h : EndT (ruleT r ++ R)) : ruleS (mkS (ruleT r ++ R) h) = some (r, mkS R hR) := by
  obtain ⟨h1, h2, h3⟩ := ruleOk_split hr
  have k1 := rises_ok h1 (by omega)
  have k2 := rises_ok h2 (by omega)
  have k3 := rises_ok h3 (by omega)
  have hlen : 2 ≤ r.when.length ∧ r.thn.length ≠ 0 := by
    simp [ruleOk] at hr
    exact ⟨hr.1.1.1.1.1.1, by intro e; exact hr.2 (List.eq_nil_of_length_eq_zero e)⟩
  have hok : ∀ x ∈ asks r, OkC x := fun x hx => by
    rcases List.mem_append.1 hx with hx | hx
    · obtain ⟨p, hp, rfl⟩ := List.mem_map.1 hx
      have := risesF_at h1 hp
      exact ⟨this.1, by simpa using this.2⟩
    · obtain ⟨p, hp, rfl⟩ := List.mem_map.1 hx
      have := risesF_at h2 hp
      exact ⟨this.1, by simp; omega⟩
  have hasks : ∃ c cs, asks r = c :: cs := by
    have : (asks r).length ≠ 0 := by unfold asks; rw [List.length_append, List.length_map, List.length_map]; omega
    cases ha : asks r with
    | nil => rw [ha] at this; simp at this
    | cons c cs => exact ⟨c, cs, rfl⟩
  obtain ⟨c, cs, ha⟩ := hasks
  obtain ⟨m, ms, hm⟩ : ∃ m ms, r.thn = m :: ms := by
    cases ht : r.thn with
    | nil => rw [ht] at hlen; simp at hlen
    | cons m ms => exact ⟨m, ms, rfl⟩
  have hD : EndT (tM ⟨#[46]⟩ :: R) := hR.app [_]
  have hM : EndT (makeT m ++ ((ms.flatMap fun x => tM ⟨#[38]⟩ :: makeT x) ++ tM ⟨#[46]⟩ :: R)) := (hD.app _).app _
  have hA : EndT (tM ⟨#[61, 62]⟩ :: (makeT m ++ ((ms.flatMap fun x => tM ⟨#[38]⟩ :: makeT x) ++ tM ⟨#[46]⟩ :: R))) := hM.app [_]
  have hC : EndT (condT c ++ ((cs.flatMap fun x => tM ⟨#[38]⟩ :: condT x) ++ tM ⟨#[61, 62]⟩ :: (makeT m ++ ((ms.flatMap fun x => tM ⟨#[38]⟩ :: makeT x) ++ tM ⟨#[46]⟩ :: R)))) := (hA.app _).app _
  have e : ruleT r ++ R = condT c ++ ((cs.flatMap fun x => tM ⟨#[38]⟩ :: condT x) ++ tM ⟨#[61, 62]⟩ :: (makeT m ++ ((ms.flatMap fun x => tM ⟨#[38]⟩ :: makeT x) ++ tM ⟨#[46]⟩ :: R))) := by
    unfold ruleT
    rw [ha, hm]
    simp [sepT, List.append_assoc]
  rw [mkS_eq e h hC]
  have hlc : ∀ l : List (Bool × PairT), l.length ≤ (l.flatMap fun x => tM ⟨#[38]⟩ :: condT x).length := fun l => by
    induction l with
    | nil => simp
    | cons y l ih => simp only [List.flatMap_cons, List.length_append, List.length_cons]; omega
  unfold ruleS
  have hf : cs.length < (mkS _ hC).l.length := by
    show cs.length < (condT c ++ ((cs.flatMap fun x => tM ⟨#[38]⟩ :: condT x) ++ tM ⟨#[61, 62]⟩ :: _)).length
    have := hlc cs
    simp only [List.length_append, List.length_cons]; omega
  rw [conds_go hA (amp_arr _ hA) cs c [] [] _ hC (by rw [← ha]; exact hok) hf]
  have hmk := list_all (sign := ampB) (one := partS asB) (kt := makeT) (sg := tM ⟨#[38]⟩) (.inr rfl) rfl (fun _ => True) (fun _ => trivial) hD trivial (amp_dot _ hD) m ms
    (fun y hy R h hR _ => by
      have hy : y ∈ r.thn := by rw [hm]; exact hy
      have hb := risesF_at h3 hy
      have := part_as y.1 y.2 R hR h
      rw [show IntKind.i64.wrap y.1 = y.1 from i64_wrap (by omega) (by omega)] at this
      exact this) hM
  show ((mustS arrB (mkS _ hA)).bind fun p2 => (listS ampB (partS asB) p2).bind fun y => (mustS dotC y.2).bind fun p4 => some ((⟨sortP ([] ++ whensOf (c :: cs)), sortP ([] ++ guardsOf (c :: cs)), sortP y.1⟩ : RuleT), { p4 with twi := ((p4.twi || dupS (sortP ([] ++ whensOf (c :: cs)))) || dupS (sortP ([] ++ guardsOf (c :: cs)))) || dupS (sortP y.1) })) = _
  rw [show mustS arrB (mkS _ hA) = some (mkS _ hM) from must_yes (t := tM ⟨#[61, 62]⟩) (.inr rfl) hA hM]
  show ((listS ampB (partS asB) (mkS _ hM)).bind _) = _
  rw [hmk, Option.bind_some]
  dsimp only
  rw [show mustS dotC (mkS (tM ⟨#[46]⟩ :: R) hD) = some (mkS R hR) from must_yes (t := tM ⟨#[46]⟩) (.inr rfl) hD hR, Option.bind_some, List.nil_append, List.nil_append, ← ha, ← hm, whens_asks, guards_asks, sortP_rise k1.1 k1.2, sortP_rise k2.1 k2.2, sortP_rise k3.1 k3.2, rises_dup h1, rises_dup h2, rises_dup h3]
  rfl
theorem on_end {R : List TokT} (h : EndT (noTok :: R)) : takeS onC (mkS (noTok :: R) h) = (false, mkS (noTok :: R) h) := take_no (fun hk => by rcases hk with hk | hk <;> exact absurd hk (by decide)) (by decide) h
def rulesT (l : List RuleT) : List TokT := l.flatMap fun r => tW ⟨#[111, 110]⟩ :: ruleT r
theorem end1 : EndT [noTok] := ⟨[], rfl⟩
theorem rules_go {k : Int} (hk : 0 ≤ k ∧ k ≤ 4) : ∀ (l : List RuleT) (acc : List RuleT) (n : Nat) (h : EndT (rulesT l ++ [noTok])), (∀ r ∈ l, ruleOk k r = true) → l.length < n → rulesGo n acc (mkS (rulesT l ++ [noTok]) h) = some (acc ++ l, mkS [noTok] end1)
  | [], acc, n, h, _, hn => by
    obtain ⟨n, rfl⟩ : ∃ m, n = m + 1 := ⟨n - 1, by omega⟩
    have e : takeS onC (mkS (rulesT [] ++ [noTok]) h) = (false, mkS [noTok] end1) := on_end h
    rw [rulesGo, e, List.append_nil]; rfl
  | r :: l, acc, n, h, hok, hn => by
    obtain ⟨n, rfl⟩ : ∃ m, n = m + 1 := ⟨n - 1, by omega⟩
    have hE : EndT (rulesT l ++ [noTok]) := end1.app _
    have hE2 : EndT (ruleT r ++ (rulesT l ++ [noTok])) := hE.app _
    have e0 : rulesT (r :: l) ++ [noTok] = tW ⟨#[111, 110]⟩ :: (ruleT r ++ (rulesT l ++ [noTok])) := by simp [rulesT]
    have e : takeS onC (mkS (rulesT (r :: l) ++ [noTok]) h) = (true, mkS _ hE2) := by
      rw [mkS_eq e0 h (e0 ▸ h)]
      exact take_yes (t := tW ⟨#[111, 110]⟩) (.inl rfl) _ hE2
    have hr := rule_eq hk (hok r (by simp)) _ hE hE2
    have ih1 := rules_go hk l (acc ++ [r]) n hE (fun x hx => hok x (by simp [hx])) (by simp at hn; omega)
    rw [rulesGo, e]
    show (if true = true then (ruleS (mkS _ hE2)).bind _ else _) = _
    rw [if_pos rfl, hr]
    show rulesGo n (acc ++ [r]) (mkS _ hE) = _
    rw [ih1, List.append_assoc]; rfl
theorem rulesT_len (l : List RuleT) : l.length ≤ (rulesT l).length := by
  induction l with
  | nil => simp
  | cons r l ih =>
    have : rulesT (r :: l) = tW ⟨#[111, 110]⟩ :: (ruleT r ++ rulesT l) := by simp [rulesT]
    rw [this]
    simp only [List.length_append, List.length_cons]; omega
end Go.Ax
namespace Go.Ax
open Go.Proofs Go.Lib
set_option maxRecDepth 10000
def sepW {α : Type} (f : α → List Lx) : List α → List Lx
  | [] => []
  | c :: cs => f c ++ cs.flatMap fun x => .s 32 :: .m [38] :: .s 32 :: f x
def askX (c : Bool × PairT) : List Lx := if c.1 then partX c.2.1 [61] c.2.2 else fieldX c.2.1 [61] c.2.2
def makeX (p : PairT) : List Lx := partX p.1 [58, 61] p.2
def lineX (r : RuleT) : List Lx := .w [111, 110] :: .s 32 :: (sepW askX (asks r) ++ (.s 32 :: .m [61, 62] :: .s 32 :: (sepW makeX r.thn ++ [.s 32, .m [46]])))
def rulesX (l : List RuleT) : List Lx := l.flatMap fun r => lineX r ++ [.s 10]
def initX (l : List Int) : List Lx := .w [105, 110, 105, 116] :: l.flatMap fun n => [.s 32, .n n.toNat]
def progX (x : ProgT) : List Lx := initX x.init ++ (.s 32 :: .m [46] :: .s 10 :: .w [112, 111, 108, 105, 99, 121] :: .s 32 :: (polX x.pol ++ (.s 32 :: .m [46] :: .s 10 :: rulesX x.rules)))
theorem txt_sep {α : Type} (f : α → List Lx) : ∀ l : List α, txtX (sepW f l) = Lib.join (l.map fun x => txtX (f x)) [32, 38, 32]
  | [] => rfl
  | c :: cs => by
    rw [sepW, txtX_app, List.map_cons, Lib.join_cons]
    congr 1
    induction cs with
    | nil => rfl
    | cons d ds ih =>
      rw [List.flatMap_cons, txtX_app, ih]
      simp [joinTail, txtX, Lx.txt]
theorem askW_dat (p : PairT) : (askW p).data.toList = txtX (askX (false, p)) := by
  show ((nameF p.1 ++ ⟨#[61]⟩) ++ digB p.2.toNat).data.toList = txtX (fieldX p.1 [61] p.2)
  rw [txt_field, bdat, bdat, digB_dat, List.append_assoc]
theorem partB_dat (f : Int) (sign : List UInt8) (n : Int) : (partB f ⟨sign.toArray⟩ n).data.toList = txtX (partX f sign n) := by
  rw [txt_part, partB, bdat, bdat, bdat, digB_dat, digB_dat]; simp
theorem asks_dat (r : RuleT) : (asksB r).map (·.data.toList) = (asks r).map fun c => txtX (askX c) := by
  unfold asksB asks
  rw [List.map_append, List.map_append, List.map_map, List.map_map, List.map_map, List.map_map]
  congr 1
  · exact List.map_congr_left fun p _ => askW_dat p
  · exact List.map_congr_left fun p _ => partB_dat p.1 [61] p.2
theorem makes_dat (r : RuleT) : (makesB r).map (·.data.toList) = r.thn.map fun c => txtX (makeX c) := by
  unfold makesB
  rw [List.map_map]
  exact List.map_congr_left fun p _ => partB_dat p.1 [58, 61] p.2
theorem joinX_dat (l : List ByteArray) : (joinX andB l).data.toList = Lib.join (l.map (·.data.toList)) [32, 38, 32] := by simp [joinX, andB]
theorem txt_line (r : RuleT) : txtX (lineX r) = (lineB r).data.toList := by
  unfold lineX lineB
  rw [bdat, bdat, bdat, bdat, joinX_dat, joinX_dat, asks_dat, makes_dat, ← txt_sep, ← txt_sep]
  simp [txtX, Lx.txt]
theorem txt_rules (l : List RuleT) : ∀ b : ByteArray, (l.foldl rlB b).data.toList = b.data.toList ++ txtX (rulesX l) := by
  induction l with
  | nil => intro b; simp [rulesX, txtX]
  | cons r l ih =>
    intro b
    rw [List.foldl_cons, ih, rlB, bdat, bdat, ← txt_line]
    simp [rulesX, txtX, Lx.txt]
theorem txt_init (l : List Int) : ∀ b : ByteArray, (l.foldl swB b).data.toList = b.data.toList ++ txtX (l.flatMap fun n => [Lx.s 32, .n n.toNat]) := by
  induction l with
  | nil => intro b; simp [txtX]
  | cons n l ih =>
    intro b
    rw [List.foldl_cons, ih, swB, bdat, bdat, digB_dat]
    simp [txtX, Lx.txt, spB]
theorem txt_prog (x : ProgT) : txtX (progX x) = (progB x).data.toList := by
  unfold progX progB
  rw [txt_rules, headG, bdat, bdat, bdat, txt_init, ← txt_pol]
  simp [txtX, Lx.txt, initX, initB, policyB, dotB, List.append_assoc]
theorem OkX.sep {α : Type} {f : α → List Lx} : ∀ (l : List α), (∀ x ∈ l, OkX (f x)) → ∀ b x, Lx.ok x = true → x.wl = false → OkX b → OkX (sepW f l ++ x :: b)
  | [], _, b, x, h1, h2, hb => OkX.mid (a := []) h1 h2 .nil hb
  | c :: cs, h, b, x, h1, h2, hb => by
    rw [sepW]
    have hc := h c (by simp)
    have key : ∀ (ds : List α), (∀ x ∈ ds, OkX (f x)) → ∀ a, OkX a → OkX (a ++ ((ds.flatMap fun x => .s 32 :: .m [38] :: .s 32 :: f x) ++ x :: b)) := by
      intro ds
      induction ds with
      | nil => intro _ a ha; exact OkX.mid h1 h2 ha hb
      | cons d ds ih =>
        intro hd a ha
        have h3 := ih (fun y hy => hd y (by simp [hy])) (f d) (hd d (by simp))
        have h4 : OkX (Lx.s 32 :: (f d ++ ((ds.flatMap fun x => .s 32 :: .m [38] :: .s 32 :: f x) ++ x :: b))) := OkX.mid (a := []) (by decide) rfl .nil h3
        have h5 : OkX (Lx.m [38] :: Lx.s 32 :: (f d ++ ((ds.flatMap fun x => .s 32 :: .m [38] :: .s 32 :: f x) ++ x :: b))) := OkX.mid (a := []) (by decide) rfl .nil h4
        have h6 := OkX.mid (x := .s 32) (by decide) rfl ha h5
        rw [List.flatMap_cons]
        simpa [List.append_assoc] using h6
    rw [List.append_assoc]
    exact key cs (fun y hy => h y (by simp [hy])) (f c) hc
theorem OkX.blank {b : List Lx} (hb : OkX b) : OkX (.s 32 :: b) := OkX.mid (a := []) (by decide) rfl .nil hb
theorem OkX.line10 {b : List Lx} (hb : OkX b) : OkX (.s 10 :: b) := OkX.mid (a := []) (by decide) rfl .nil hb
theorem OkX.sign {l : List UInt8} (h : (Lx.m l).ok = true) {b : List Lx} (hb : OkX b) : OkX (.m l :: b) := OkX.mid (a := []) h rfl .nil hb
theorem OkX.word {l : List UInt8} (h : (Lx.w l).ok = true) {x : Lx} (hx : x.ok = true) (hw : x.wl = false) {b : List Lx} (hb : OkX b) : OkX (.w l :: x :: b) :=
  OkX.mid (a := [.w l]) hx hw ⟨fun y hy => by rw [List.mem_singleton.1 hy]; exact h, rfl⟩ hb
theorem OkX.line {k : Int} (hk : k ≤ 60000) {r : RuleT} (ht : TypR r) (h : ruleOk k r = true) {b : List Lx} (hb : OkX b) : OkX (lineX r ++ .s 10 :: b) := by
  obtain ⟨h1, h2, h3⟩ := ruleOk_split h
  have ha : ∀ c ∈ asks r, OkX (askX c) := fun c hc => by
    rcases List.mem_append.1 hc with hc | hc
    · obtain ⟨p, hp, rfl⟩ := List.mem_map.1 hc
      have := risesF_at h1 hp
      exact OkX.field this (by decide) (ht.when p hp)
    · obtain ⟨p, hp, rfl⟩ := List.mem_map.1 hc
      have := risesF_at h2 hp
      exact OkX.part ⟨this.1, by show p.1 < 65536; omega⟩ (by decide) (ht.guard p hp)
  have hm : ∀ p ∈ r.thn, OkX (makeX p) := fun p hp => by
    have := risesF_at h3 hp
    exact OkX.part ⟨this.1, by omega⟩ (by decide) (ht.thn p hp)
  have e : lineX r ++ .s 10 :: b = .w [111, 110] :: .s 32 :: (sepW askX (asks r) ++ .s 32 :: .m [61, 62] :: .s 32 :: (sepW makeX r.thn ++ .s 32 :: .m [46] :: .s 10 :: b)) := by
    unfold lineX; simp [List.append_assoc]
  rw [e]
  refine OkX.word (by decide) (by decide) rfl (OkX.sep _ ha _ _ (by decide) rfl (OkX.sign (by decide) (OkX.blank (OkX.sep _ hm _ _ (by decide) rfl (OkX.sign (by decide) (OkX.line10 hb))))))
theorem OkX.rules {k : Int} (hk : k ≤ 60000) : ∀ l : List RuleT, (∀ r ∈ l, TypR r) → (∀ r ∈ l, ruleOk k r = true) → OkX (rulesX l)
  | [], _, _ => .nil
  | r :: l, ht, h => by
    have e : rulesX (r :: l) = lineX r ++ .s 10 :: rulesX l := by simp [rulesX]
    rw [e]
    exact OkX.line hk (ht r (by simp)) (h r (by simp)) (OkX.rules hk l (fun x hx => ht x (by simp [hx])) fun x hx => h x (by simp [hx]))
theorem OkX.init (l : List Int) (hl : ∀ n ∈ l, 0 ≤ n ∧ n < 65536) {b : List Lx} (hb : OkX b) : OkX (initX l ++ .s 32 :: b) := by
  have key : ∀ (l : List Int), (∀ n ∈ l, 0 ≤ n ∧ n < 65536) → ∀ a, OkX a → OkX (a ++ ((l.flatMap fun n => [Lx.s 32, .n n.toNat]) ++ .s 32 :: b)) := by
    intro l
    induction l with
    | nil => intro _ a ha; exact OkX.mid (by decide) rfl ha hb
    | cons n l ih =>
      intro hl a ha
      have hn := hl n (by simp)
      have h1 := ih (fun m hm => hl m (by simp [hm])) [.n n.toNat] ⟨fun y hy => by rw [List.mem_singleton.1 hy]; simp [Lx.ok]; omega, rfl⟩
      have h2 := OkX.mid (x := .s 32) (by decide) rfl ha h1
      rw [List.flatMap_cons]
      simpa [List.append_assoc] using h2
  have := key l hl [.w [105, 110, 105, 116]] ⟨fun y hy => by rw [List.mem_singleton.1 hy]; decide, rfl⟩
  simpa [initX] using this
theorem OkX.prog {x : ProgT} (ho : OkG x) (hc : checkP x = 0) : OkX (progX x) := by
  obtain ⟨⟨_, hi⟩, _, hf, hr⟩ := check_zero hc
  have hp := OkX.pol (k := x.init.length) (by omega) _ x.pol (Nat.le_refl _) ho.pol hf
  have hrs := OkX.rules (k := x.init.length) (by omega) x.rules ho.rules hr
  unfold progX
  refine OkX.init x.init ho.init (OkX.sign (by decide) (OkX.line10 (OkX.word (by decide) (by decide) rfl ?_)))
  exact OkX.mid (x := .s 32) (by decide) rfl hp (OkX.sign (by decide) (OkX.line10 hrs))
theorem tok_sep {α : Type} (f : α → List Lx) : ∀ l : List α, tokX (sepW f l) = sepT (tM ⟨#[38]⟩) (fun x => tokX (f x)) l
  | [] => rfl
  | c :: cs => by
    rw [sepW, tokX_app, sepT]
    congr 1
    induction cs with
    | nil => rfl
    | cons d ds ih =>
      rw [List.flatMap_cons, List.flatMap_cons, tokX_app, ih]
      rfl
theorem sepT_congr {α : Type} {sg : TokT} {f g : α → List TokT} : ∀ {l : List α}, (∀ x ∈ l, f x = g x) → sepT sg f l = sepT sg g l
  | [], _ => rfl
  | c :: cs, h => by
    rw [sepT, sepT, h c (by simp)]
    congr 1
    have h2 : ∀ x ∈ cs, f x = g x := fun x hx => h x (by simp [hx])
    clear h
    induction cs with
    | nil => rfl
    | cons d ds ih => rw [List.flatMap_cons, List.flatMap_cons, h2 d (by simp), ih fun x hx => h2 x (by simp [hx])]
theorem tok_line {k : Int} (hk : k ≤ 60000) {r : RuleT} (ht : TypR r) (h : ruleOk k r = true) : tokX (lineX r) = tW ⟨#[111, 110]⟩ :: ruleT r := by
  obtain ⟨h1, h2, h3⟩ := ruleOk_split h
  have ha : ∀ c ∈ asks r, tokX (askX c) = condT c := fun c hc => by
    rcases List.mem_append.1 hc with hc | hc
    · obtain ⟨p, hp, rfl⟩ := List.mem_map.1 hc
      exact tok_field (ht.when p hp).1
    · obtain ⟨p, hp, rfl⟩ := List.mem_map.1 hc
      exact tok_part (risesF_at h2 hp).1 (ht.guard p hp).1
  have hm : ∀ p ∈ r.thn, tokX (makeX p) = makeT p := fun p hp => tok_part (risesF_at h3 hp).1 (ht.thn p hp).1
  unfold lineX ruleT
  rw [← sepT_congr ha, ← sepT_congr hm, ← tok_sep, ← tok_sep]
  simp [tokX, Lx.tok, tW, tM]
theorem tok_rules {k : Int} (hk : k ≤ 60000) : ∀ l : List RuleT, (∀ r ∈ l, TypR r) → (∀ r ∈ l, ruleOk k r = true) → tokX (rulesX l) = rulesT l
  | [], _, _ => rfl
  | r :: l, ht, h => by
    have e : rulesX (r :: l) = lineX r ++ .s 10 :: rulesX l := by simp [rulesX]
    have e2 : rulesT (r :: l) = (tW ⟨#[111, 110]⟩ :: ruleT r) ++ rulesT l := by simp [rulesT]
    rw [e, e2, tokX_app, tokX_cons, tok_line hk (ht r (by simp)) (h r (by simp)), tok_rules hk l (fun x hx => ht x (by simp [hx])) fun x hx => h x (by simp [hx])]
    rfl
def progT (x : ProgT) : List TokT := tW ⟨#[105, 110, 105, 116]⟩ :: (x.init.map tN ++ tM ⟨#[46]⟩ :: tW ⟨#[112, 111, 108, 105, 99, 121]⟩ :: (tokX (polX x.pol) ++ tM ⟨#[46]⟩ :: rulesT x.rules))
theorem tok_init : ∀ l : List Int, (∀ n ∈ l, 0 ≤ n) → tokX (l.flatMap fun n => [Lx.s 32, .n n.toNat]) = l.map tN
  | [], _ => rfl
  | n :: l, h => by
    rw [List.flatMap_cons, tokX_app, tok_init l fun m hm => h m (by simp [hm]), List.map_cons]
    have := h n (by simp)
    simp [tokX, Lx.tok, tN]
    omega
theorem tok_prog {x : ProgT} (ho : OkG x) (hc : checkP x = 0) : tokX (progX x) = progT x := by
  obtain ⟨⟨_, hi⟩, _, hf, hr⟩ := check_zero hc
  unfold progX progT initX
  rw [tokX_app, tokX_cons, tok_init _ fun n hn => (ho.init n hn).1]
  simp only [tokX_cons, tokX_app, tok_rules (k := x.init.length) (by omega) x.rules ho.rules hr]
  rfl
theorem nums_go {R : List TokT} (hR : EndT R) (hD : EndT (tM ⟨#[46]⟩ :: R)) : ∀ (l : List Int) (acc : List Int) (n : Nat) (h : EndT (l.map tN ++ tM ⟨#[46]⟩ :: R)), l.length < n → numsGo n acc (mkS (l.map tN ++ tM ⟨#[46]⟩ :: R) h) = some (acc ++ l, mkS R hR)
  | [], acc, n, h, hn => by
    obtain ⟨n, rfl⟩ : ∃ m, n = m + 1 := ⟨n - 1, by omega⟩
    have e : takeS dotC (mkS (tM ⟨#[46]⟩ :: R) hD) = (true, mkS R hR) := take_yes (t := tM ⟨#[46]⟩) (.inr rfl) hD hR
    rw [numsGo, show takeS dotC (mkS (List.map tN [] ++ tM ⟨#[46]⟩ :: R) h) = (true, mkS R hR) from e, List.append_nil]
    rfl
  | m :: l, acc, n, h, hn => by
    obtain ⟨n, rfl⟩ : ∃ m, n = m + 1 := ⟨n - 1, by omega⟩
    have hE : EndT (l.map tN ++ tM ⟨#[46]⟩ :: R) := hD.app _
    have e : takeS dotC (mkS (tN m :: (l.map tN ++ tM ⟨#[46]⟩ :: R)) h) = (false, mkS (tN m :: (l.map tN ++ tM ⟨#[46]⟩ :: R)) h) := take_no (fun hk => by rcases hk with hk | hk <;> exact absurd hk (show ¬ (2 : Int) = _ by decide)) (by decide) h
    have e2 : numS (mkS (tN m :: (l.map tN ++ tM ⟨#[46]⟩ :: R)) h) = some (m, mkS _ hE) := rfl
    rw [numsGo, show takeS dotC (mkS (List.map tN (m :: l) ++ tM ⟨#[46]⟩ :: R) h) = _ from e]
    show (if false = true then _ else (numS (mkS (tN m :: (l.map tN ++ tM ⟨#[46]⟩ :: R)) h)).bind _) = _
    rw [if_neg (by simp), e2, Option.bind_some]
    dsimp only
    rw [nums_go hR hD l (acc ++ [m]) n hE (by simp at hn; omega), List.append_assoc]
    rfl
theorem tok_size {k : Int} (hk : k ≤ 60000) : ∀ (N : Nat) (p : PolT), sizeP p ≤ N → WfP k p → sizeP p ≤ (tokX (polX p)).length
  | 0, p, h, _ => by have := sizeP_pos p; omega
  | N + 1, p, hN, hw => by
    have ih : ∀ q ∈ p.kids, ∀ of, sizeP q ≤ (kidT of q).length := fun q hq of => by
      have h1 := tok_size hk N q (by have := sizeP_kid hq; omega) (hw.kid hq)
      by_cases hb : bareB of q.op = true
      · rw [kidT_bare hb]; exact h1
      · rw [kidT_par (Bool.eq_false_iff.2 hb)]; simp; omega
    have hsz : sizeP p = 1 + sizesP p.kids := by cases p; rw [sizeP]; rfl
    by_cases h67 : p.op = 6 ∨ p.op = 7
    · obtain ⟨_, hl2⟩ := hw.join h67
      cases hkk : p.kids with
      | nil => rw [hkk] at hl2; simp at hl2
      | cons q l =>
        rw [tok_pol h67 hkk, hsz, hkk, sizesP, List.length_append]
        have hq := ih q (by rw [hkk]; simp) p.op
        have key : ∀ l : List PolT, (∀ y ∈ l, sizeP y ≤ (kidT p.op y).length) → sizesP l + l.length ≤ (l.flatMap fun x => tM ⟨(signX p.op).toArray⟩ :: kidT p.op x).length := by
          intro l
          induction l with
          | nil => intro _; simp [sizesP]
          | cons y l ih2 =>
            intro h
            have h1 := h y (by simp)
            have h2 := ih2 fun z hz => h z (by simp [hz])
            rw [sizesP, List.flatMap_cons]
            simp only [List.length_append, List.length_cons]; omega
        have h2 := key l fun y hy => ih y (by rw [hkk]; simp [hy]) p.op
        have : 1 ≤ l.length := by rw [hkk] at hl2; simp at hl2; omega
        omega
    · by_cases h4 : p.op = 4
      · obtain ⟨q, hq⟩ := not4_kid hw h4
        have h1 := ih q (by rw [hq]; exact List.mem_singleton.2 rfl) 4
        have e : tokX (polX p) = tM ⟨#[33]⟩ :: kidT 4 q := by
          rw [hq, polX, kidsX_cons, kidsX, tokX_app]
          show tokX [.m [33]] ++ tokX ([] ++ (kidX 4 q ++ [])) = _
          rw [List.nil_append, List.append_nil]; rfl
        rw [e, hq, sizeP, sizesP, sizesP, List.length_cons]; omega
      · have hkids := formP_leaf hw.fm h4 (fun h => h67 (.inl h)) (fun h => h67 (.inr h))
        rw [hsz, hkids, sizesP]
        have : (tokX (polX p)).length ≠ 0 := fun h0 => by
          have e := leaf_atom hk hw h4 (fun h => h67 (.inl h)) (fun h => h67 (.inr h)) (fun _ => none) 0 [noTok] end1 (end1.app _)
          rw [mkS_eq (by rw [List.eq_nil_of_length_eq_zero h0]; rfl) (end1.app _) end1] at e
          have e2 : unaryS (fun _ => none) 1 (mkS [noTok] end1) = none := rfl
          rw [e2] at e
          exact absurd e (by simp)
        omega
theorem take_letNo {R : List TokT} (h : EndT (tW ⟨#[112, 111, 108, 105, 99, 121]⟩ :: R)) : takeS letC (mkS (tW ⟨#[112, 111, 108, 105, 99, 121]⟩ :: R) h) = (false, mkS (tW ⟨#[112, 111, 108, 105, 99, 121]⟩ :: R) h) := take_no (fun _ => by decide) (by decide) h
theorem prog_read {x : ProgT} (ho : OkG x) (hc : checkP x = 0) : progS (sp0 (progT x)) = some (x, mkS [noTok] end1) := by
  obtain ⟨⟨hi1, hi⟩, _, hf, hr⟩ := check_zero hc
  have hk : (0 : Int) ≤ x.init.length ∧ (x.init.length : Int) ≤ 4 := by omega
  have hw : WfP x.init.length x.pol := ⟨ho.pol, hf⟩
  obtain ⟨m, ms, hm⟩ : ∃ m ms, x.init = m :: ms := by
    cases hx : x.init with
    | nil => rw [hx] at hi1; simp at hi1
    | cons m ms => exact ⟨m, ms, rfl⟩
  have hRu : EndT (rulesT x.rules ++ [noTok]) := end1.app _
  have hD2 : EndT (tM ⟨#[46]⟩ :: (rulesT x.rules ++ [noTok])) := hRu.app [_]
  have hPol : EndT (tokX (polX x.pol) ++ tM ⟨#[46]⟩ :: (rulesT x.rules ++ [noTok])) := hD2.app _
  have hP : EndT (tW ⟨#[112, 111, 108, 105, 99, 121]⟩ :: (tokX (polX x.pol) ++ tM ⟨#[46]⟩ :: (rulesT x.rules ++ [noTok]))) := hPol.app [_]
  have hD1 : EndT (tM ⟨#[46]⟩ :: tW ⟨#[112, 111, 108, 105, 99, 121]⟩ :: (tokX (polX x.pol) ++ tM ⟨#[46]⟩ :: (rulesT x.rules ++ [noTok]))) := hP.app [_]
  have hN : EndT (ms.map tN ++ tM ⟨#[46]⟩ :: tW ⟨#[112, 111, 108, 105, 99, 121]⟩ :: (tokX (polX x.pol) ++ tM ⟨#[46]⟩ :: (rulesT x.rules ++ [noTok]))) := hD1.app _
  have hN1 : EndT (tN m :: (ms.map tN ++ tM ⟨#[46]⟩ :: tW ⟨#[112, 111, 108, 105, 99, 121]⟩ :: (tokX (polX x.pol) ++ tM ⟨#[46]⟩ :: (rulesT x.rules ++ [noTok])))) := hN.app [_]
  have hI : EndT (tW ⟨#[105, 110, 105, 116]⟩ :: tN m :: (ms.map tN ++ tM ⟨#[46]⟩ :: tW ⟨#[112, 111, 108, 105, 99, 121]⟩ :: (tokX (polX x.pol) ++ tM ⟨#[46]⟩ :: (rulesT x.rules ++ [noTok])))) := hN1.app [_]
  have e : progT x ++ [noTok] = tW ⟨#[105, 110, 105, 116]⟩ :: tN m :: (ms.map tN ++ tM ⟨#[46]⟩ :: tW ⟨#[112, 111, 108, 105, 99, 121]⟩ :: (tokX (polX x.pol) ++ tM ⟨#[46]⟩ :: (rulesT x.rules ++ [noTok]))) := by
    unfold progT; rw [hm]; simp [List.append_assoc]
  have es : sp0 (progT x) = mkS _ hI := mkS_eq e _ hI
  have hhead : headS (mkS _ hI) = some (x.init, mkS _ hP) := by
    unfold headS
    rw [show mustS initC (mkS _ hI) = some (mkS _ hN1) from must_yes (t := tW ⟨#[105, 110, 105, 116]⟩) (.inl rfl) hI hN1, Option.bind_some,
      show numS (mkS _ hN1) = some (m, mkS _ hN) from rfl, Option.bind_some]
    dsimp only
    rw [nums_go hP hD1 ms [m] _ hN (by show ms.length < (ms.map tN ++ tM ⟨#[46]⟩ :: _).length; rw [List.length_append, List.length_map, List.length_cons]; omega), Option.bind_some]
    dsimp only
    have hl : letsGo (mkS _ hP).l.length (mkS _ hP) = some (mkS _ hP) := by
      have hlen : (mkS _ hP).l.length = (tokX (polX x.pol) ++ tM ⟨#[46]⟩ :: (rulesT x.rules ++ [noTok])).length + 1 := rfl
      rw [hlen, letsGo, take_letNo hP]; rfl
    rw [hl, Option.bind_some, hm]
    rfl
  have hmp : mustS policyC (mkS _ hP) = some (mkS _ hPol) := must_yes (t := tW ⟨#[112, 111, 108, 105, 99, 121]⟩) (.inl rfl) hP hPol
  have hts := tok_size (k := x.init.length) (by omega) _ x.pol (Nat.le_refl _) hw
  have hsum : sumS (mkS _ hPol).l.length (mkS _ hPol) = some (x.pol, mkS _ hD2) :=
    (reads (k := x.init.length) (by omega) _ x.pol (Nat.le_refl _) hw).sum _ (by show sizeP x.pol ≤ (tokX (polX x.pol) ++ tM ⟨#[46]⟩ :: _).length; rw [List.length_append]; omega) _ hD2 hPol (notSemi_dot _) (notPlus_dot _)
  have hmd : mustS dotC (mkS _ hD2) = some (mkS _ hRu) := must_yes (t := tM ⟨#[46]⟩) (.inr rfl) hD2 hRu
  have hg := rules_go hk x.rules [] (mkS _ hRu).l.length hRu hr (by
    show x.rules.length < (rulesT x.rules ++ [noTok]).length
    have := rulesT_len x.rules
    simp; omega)
  rw [es, progS, hhead, Option.bind_some]
  dsimp only
  rw [bodyS, hmp, Option.bind_some, hsum, Option.bind_some]
  dsimp only
  rw [hmd, Option.bind_some, hg, Option.bind_some, List.nil_append]
  rfl
theorem show_back {x : ProgT} (ho : OkG x) (hc : checkP x = 0) (hs : (progB x).size ≤ 4000) : parseS (progB x) = (some x, 0) ∧ FitP (progB x) := by
  have hok := OkX.prog ho hc
  have hlow : ∀ b ∈ (progB x).data.toList, b.toNat < 128 := fun b hb => by
    rw [← txt_prog] at hb
    obtain ⟨l, hl, hbl⟩ := List.mem_flatten.1 hb
    obtain ⟨y, hy, rfl⟩ := List.mem_map.1 hl
    have hyk := hok.1 y hy
    cases y with
    | w l =>
      simp only [Lx.ok, Bool.and_eq_true, List.all_eq_true, decide_eq_true_eq] at hyk
      have := hyk.2 b hbl
      omega
    | n k =>
      have := dec_digit k b hbl
      omega
    | m l =>
      have hm : l ∈ signs := by simpa [Lx.ok] using hyk
      simp only [signs, List.mem_cons, List.not_mem_nil, or_false] at hm
      have hbl : b ∈ l := hbl
      rcases hm with rfl | rfl | rfl | rfl | rfl | rfl | rfl | rfl | rfl | rfl | rfl <;> simp at hbl <;> (try rcases hbl with rfl | rfl) <;> (try subst hbl) <;> decide
    | s c =>
      have hbl : b ∈ [c] := hbl
      rw [List.mem_singleton] at hbl
      subst hbl
      simp only [Lx.ok, Bool.or_eq_true, beq_iff_eq] at hyk
      rcases hyk with rfl | rfl <;> decide
  have hch := low_chunks _ hlow
  have hv : vS (progB x) = true := by
    unfold vS
    rw [valid_chunks, hch]
    exact all_low _ hlow
  have htok : tokensF vS (progB x) = (some (progT x ++ [noTok]), 0) := by
    rw [tokensF_T _ hs, if_neg (by rw [hv]; simp), hch]
    have := tok_lx (progX x) hok.1 hok.2 []
    rw [tok_prog ho hc, txt_prog] at this
    exact this
  have h1 := prog_read ho hc
  have key : ∀ l' e, tokensF vS (progB x) = (some (l' ++ [noTok]), e) → l' = progT x := fun l' e h' => by
    rw [htok] at h'; injection h' with h' _; injection h' with h'
    exact (List.append_cancel_right h').symm
  constructor
  · unfold parseS
    rw [htok]
    show resS (progS (sp0 ((progT x ++ [noTok]).dropLast))) = _
    rw [List.dropLast_concat, h1]
    simp [resS, mkS, hc]
  · refine ⟨fun l' e h' y q hy => ?_⟩
    rw [key l' e h', h1] at hy
    injection hy with hy
    injection hy with y1 _
    subst y1
    exact ho.small
end Go.Ax
namespace Go.Ax
open Go.Proofs Go.Lib
set_option maxRecDepth 10000
def Rng (n : Int) : Prop := 0 ≤ n ∧ n < 65536
structure SPok (p : SP) : Prop where
  l : ∀ t ∈ p.l, Rng t.n
  ns : ∀ e ∈ p.ns, Rng e.2
theorem SPok.next {p q : SP} {t : TokT} (h : SPok p) (e : nextS p = some (t, q)) : Rng t.n ∧ SPok q := by
  unfold nextS at e
  split at e
  · simp at e
  · rename_i hk
    injection e with e
    injection e with e1 e2
    obtain ⟨l, ok, ns, u, w⟩ := p
    cases l with
    | nil => exact ok.not_nil.elim
    | cons a r =>
      subst e1; subst e2
      exact ⟨h.l a (by simp), ⟨fun t ht => h.l t (List.mem_cons_of_mem _ ht), h.ns⟩⟩
theorem SPok.take {p : SP} (h : SPok p) (s : ByteArray) : SPok (takeS s p).2 := by
  unfold takeS
  split
  · obtain ⟨l, ok, ns, u, w⟩ := p
    cases l with
    | nil => exact ok.not_nil.elim
    | cons a r => exact ⟨fun t ht => h.l t (List.mem_cons_of_mem _ ht), h.ns⟩
  · exact h
theorem SPok.must {p q : SP} (h : SPok p) {s : ByteArray} (e : mustS s p = some q) : SPok q := by
  unfold mustS at e
  split at e
  · injection e with e; subst e; exact h.take s
  · simp at e
theorem SPok.num {p q : SP} {n : Int} (h : SPok p) (e : numS p = some (n, q)) : Rng n ∧ SPok q := by
  unfold numS at e
  split at e
  · simp at e
  · rename_i t r hn
    split at e
    · injection e with e; injection e with e1 e2; subst e1; subst e2; exact h.next hn
    · simp at e
theorem SPok.name {p q : SP} {w : ByteArray} (h : SPok p) (e : nameS p = some (w, q)) : SPok q := by
  unfold nameS at e
  split at e
  · simp at e
  · rename_i t r hn
    split at e
    · injection e with e; injection e with e1 e2; subst e2; exact (h.next hn).2
    · simp at e
theorem SPok.field {p q : SP} {n : Int} (h : SPok p) (e : fieldS p = some (n, q)) : SPok q := by
  unfold fieldS at e
  split at e
  · simp at e
  · rename_i t r hn
    split at e
    · injection e with e; injection e with e1 e2; subst e2; exact (h.next hn).2
    · simp at e
theorem nsGet_rng {ns : List (ByteArray × Int)} (h : ∀ e ∈ ns, Rng e.2) (w : ByteArray) : Rng (nsGet ns w) := by
  unfold nsGet
  split
  · rename_i i _
    by_cases hi : i < ns.length
    · have := h ns[i] (List.getElem_mem hi)
      simpa [List.getD, hi] using this
    · simp [List.getD, hi, Rng]
  · exact ⟨by omega, by omega⟩
theorem SPok.value {p q : SP} {n : Int} (h : SPok p) (e : valueS p = some (n, q)) : Rng n ∧ SPok q := by
  unfold valueS at e
  split at e
  · exact h.num e
  · split at e
    · simp at e
    · rename_i w r hn
      injection e with e; injection e with e1 e2; subst e1; subst e2
      have := h.name hn
      exact ⟨nsGet_rng this.ns w, ⟨this.l, this.ns⟩⟩
theorem SPok.part {p q : SP} {s : ByteArray} {x : PairT} (h : SPok p) (e : partS s p = some (x, q)) : Rng x.2 ∧ SPok q := by
  simp only [partS, Option.bind_eq_some_iff] at e
  obtain ⟨p1, e1, y, e2, p3, e3, v, e4, e5⟩ := e
  injection e5 with e5; injection e5 with e6 e7; subst e6; subst e7
  have h1 := (h.must e1).num e2
  exact ((h1.2).must e3).value e4
def GoodR {α : Type} (P : α → Prop) (m : α → Nat) (one : SP → Option (α × SP)) : Prop := ∀ p x q, SPok p → one p = some (x, q) → P x ∧ SPok q ∧ m x + q.l.length ≤ p.l.length
theorem GoodR.go {α : Type} {P : α → Prop} {m : α → Nat} {one : SP → Option (α × SP)} (h : GoodR P m one) {sign : ByteArray} : ∀ {n : Nat} {acc : List α} {p : SP} {x : List α} {q : SP}, SPok p → (∀ y ∈ acc, P y) → listGo sign one n acc p = some (x, q) →
    (∀ y ∈ x, P y) ∧ SPok q ∧ (x.map m).sum + x.length + q.l.length ≤ (acc.map m).sum + acc.length + p.l.length
  | 0, _, _, _, _, _, _, e => by simp [listGo] at e
  | n + 1, acc, p, x, q, hp, ha, e => by
    have ht := takeS_len (s := sign) (p := p)
    rw [listGo] at e
    split at e
    · rename_i hT
      split at e
      · simp at e
      · rename_i y r hy
        obtain ⟨h1, h2, h3⟩ := h _ _ _ (hp.take sign) hy
        have := GoodR.go h h2 (acc := acc ++ [y]) (fun z hz => by
          rcases List.mem_append.1 hz with hz | hz
          · exact ha z hz
          · rw [List.mem_singleton.1 hz]; exact h1) e
        refine ⟨this.1, this.2.1, ?_⟩
        have h4 := this.2.2
        have h5 := ht.2 hT
        simp at h4
        omega
    · injection e with e; injection e with e1 e2; subst e1; subst e2
      exact ⟨ha, hp.take sign, by have := ht.1; omega⟩
theorem GoodR.list {α : Type} {P : α → Prop} {m : α → Nat} {one : SP → Option (α × SP)} (h : GoodR P m one) {sign : ByteArray} {p : SP} {x : List α} {q : SP} (hp : SPok p) (e : listS sign one p = some (x, q)) :
    (∀ y ∈ x, P y) ∧ SPok q ∧ (x.map m).sum + x.length + q.l.length ≤ p.l.length + 1 := by
  unfold listS at e
  split at e
  · simp at e
  · rename_i y r hy
    obtain ⟨h1, h2, h3⟩ := h _ _ _ hp hy
    have := GoodR.go h h2 (acc := [y]) (fun z hz => by rw [List.mem_singleton.1 hz]; exact h1) e
    refine ⟨this.1, this.2.1, ?_⟩
    have h4 := this.2.2
    simp at h4
    omega
theorem sizes_map : ∀ l : List PolT, sizesP l = (l.map sizeP).sum
  | [] => rfl
  | p :: l => by rw [sizesP, sizes_map l]; simp
theorem joined_ok {op : Int} {l : List PolT} (h : ∀ p ∈ l, okPol p) (hne : 1 ≤ l.length) : okPol (joinedS op l) ∧ sizeP (joinedS op l) + 1 ≤ (l.map sizeP).sum + l.length := by
  unfold joinedS
  split
  · rename_i h1
    obtain ⟨p, rfl⟩ := List.length_eq_one_iff.1 h1
    exact ⟨h p (by simp), by simp⟩
  · exact ⟨(okPol_at _).2 ⟨⟨by show (0 : Int) ≤ 0; omega, by show (0 : Int) < 65536; omega⟩, okPols_of h⟩, by rw [sizeP, sizes_map]; omega⟩
theorem okLeaf {op f n : Int} (h : Rng n) : okPol (.mk op f n []) := (okPol_at _).2 ⟨h, trivial⟩
theorem sizeLeaf (op f n : Int) : sizeP (.mk op f n []) = 1 := by rw [sizeP, sizesP]
theorem atom_good {sum : SP → Option (PolT × SP)} (hs : GoodR okPol sizeP sum) : GoodR okPol sizeP (atomS sum) := fun p x q hp e => by
  have z0 : Rng 0 := ⟨by omega, by omega⟩
  unfold atomS at e
  dsimp only at e
  have t1 := takeS_len (s := idB) (p := p)
  have k1 := hp.take idB
  generalize takeS idB p = a at *
  have t2 := takeS_len (s := dropB) (p := a.2)
  have k2 := k1.take dropB
  generalize takeS dropB a.2 = b at *
  have t3 := takeS_len (s := lparB) (p := b.2)
  have k3 := k2.take lparB
  generalize takeS lparB b.2 = c at *
  split at e
  · rename_i h1
    injection e with e; injection e with e1 e2; subst e1; subst e2
    have := t1.2 h1
    exact ⟨okLeaf z0, k1, by rw [sizeLeaf]; omega⟩
  · split at e
    · rename_i h2
      injection e with e; injection e with e1 e2; subst e1; subst e2
      have := t2.2 h2
      exact ⟨okLeaf z0, k2, by rw [sizeLeaf]; omega⟩
    · split at e
      · rename_i h3
        simp only [Option.bind_eq_some_iff] at e
        obtain ⟨y, e1, r, e2, e3⟩ := e
        injection e3 with e3; injection e3 with e4 e5; subst e4; subst e5
        obtain ⟨g1, g2, g3⟩ := hs _ _ _ k3 e1
        have := t3.2 h3
        have := mustS_len e2
        exact ⟨g1, g2.must e2, by omega⟩
      · split at e
        · simp only [Option.bind_eq_some_iff] at e
          obtain ⟨y, e1, e3⟩ := e
          injection e3 with e3; injection e3 with e4 e5; subst e4; subst e5
          obtain ⟨g1, g2⟩ := k3.part e1
          have := partS_len e1
          exact ⟨okLeaf g1, g2, by rw [sizeLeaf]; omega⟩
        · simp only [Option.bind_eq_some_iff] at e
          obtain ⟨f, e1, e3⟩ := e
          have f1 := fieldS_len e1
          have g1 := k3.field e1
          have t4 := takeS_len (s := asB) (p := f.2)
          have k4 := g1.take asB
          generalize takeS asB f.2 = d at *
          split at e3
          · simp only [Option.bind_eq_some_iff] at e3
            obtain ⟨v, e4, e5⟩ := e3
            injection e5 with e5; injection e5 with e6 e7; subst e6; subst e7
            obtain ⟨g2, g3⟩ := k4.value e4
            have := valueS_len e4
            exact ⟨okLeaf g2, g3, by rw [sizeLeaf]; omega⟩
          · simp only [Option.bind_eq_some_iff] at e3
            obtain ⟨r, e4, v, e5, e6⟩ := e3
            injection e6 with e6; injection e6 with e7 e8; subst e7; subst e8
            have g2 := k4.must e4
            obtain ⟨g3, g4⟩ := g2.value e5
            have := mustS_len e4
            have := valueS_len e5
            exact ⟨okLeaf g3, g4, by rw [sizeLeaf]; omega⟩
theorem unary_good {sum : SP → Option (PolT × SP)} (hs : GoodR okPol sizeP sum) : ∀ n, GoodR okPol sizeP (unaryS sum n)
  | 0 => fun p x q hp e => by simp [unaryS] at e
  | n + 1 => fun p x q hp e => by
    have t1 := takeS_len (s := bangB) (p := p)
    have k1 := hp.take bangB
    rw [unaryS] at e
    split at e
    · rename_i h1
      simp only [Option.bind_eq_some_iff] at e
      obtain ⟨y, e1, e3⟩ := e
      injection e3 with e3; injection e3 with e4 e5; subst e4; subst e5
      obtain ⟨g1, g2, g3⟩ := unary_good hs n _ _ _ k1 e1
      have := t1.2 h1
      refine ⟨(okPol_at _).2 ⟨⟨by show (0 : Int) ≤ 0; omega, by show (0 : Int) < 65536; omega⟩, okPols_of fun z hz => by rw [List.mem_singleton.1 hz]; exact g1⟩, g2, ?_⟩
      rw [sizeP, sizesP, sizesP]; omega
    · obtain ⟨g1, g2, g3⟩ := atom_good hs _ _ _ k1 e
      exact ⟨g1, g2, by omega⟩
theorem listS_pos {α : Type} {sign : ByteArray} {one : SP → Option (α × SP)} {p : SP} {x : List α} {q : SP} (e : listS sign one p = some (x, q)) : 1 ≤ x.length := by
  have key : ∀ (n : Nat) (acc : List α) (p : SP) (x : List α) (q : SP), listGo sign one n acc p = some (x, q) → acc.length ≤ x.length := by
    intro n
    induction n with
    | zero => intro acc p x q h; simp [listGo] at h
    | succ n ih =>
      intro acc p x q h
      rw [listGo] at h
      split at h
      · split at h
        · simp at h
        · have := ih _ _ _ _ h; simp at this; omega
      · injection h with h; injection h with e1 e2; subst e1; exact Nat.le_refl _
  unfold listS at e
  split at e
  · simp at e
  · exact key _ _ _ _ _ e
theorem seq_good {sum : SP → Option (PolT × SP)} (hs : GoodR okPol sizeP sum) (n : Nat) : GoodR okPol sizeP (seqS sum n) := fun p x q hp e => by
  simp only [seqS, Option.bind_eq_some_iff] at e
  obtain ⟨y, e1, e3⟩ := e
  injection e3 with e3; injection e3 with e4 e5; subst e4; subst e5
  obtain ⟨g1, g2, g3⟩ := (unary_good hs n).list hp e1
  obtain ⟨j1, j2⟩ := joined_ok (op := 6) g1 (listS_pos e1)
  exact ⟨j1, g2, by omega⟩
theorem sum_good : ∀ n, GoodR okPol sizeP (sumS n)
  | 0 => fun p x q hp e => by simp [sumS] at e
  | n + 1 => fun p x q hp e => by
    simp only [sumS, Option.bind_eq_some_iff] at e
    obtain ⟨y, e1, e3⟩ := e
    injection e3 with e3; injection e3 with e4 e5; subst e4; subst e5
    obtain ⟨g1, g2, g3⟩ := (seq_good (sum_good n) (n + 1)).list hp e1
    obtain ⟨j1, j2⟩ := joined_ok (op := 7) g1 (listS_pos e1)
    exact ⟨j1, g2, by omega⟩
end Go.Ax
namespace Go.Ax
open Go.Proofs Go.Lib
set_option maxRecDepth 10000
section
variable {P : PairT → Prop} (h0 : P p0)
include h0
theorem getD_all {l : List PairT} (h : ∀ x ∈ l, P x) (i : Nat) : P (l.getD i p0) := by
  by_cases hi : i < l.length
  · have := h l[i] (List.getElem_mem hi)
    simpa [List.getD, hi] using this
  · simpa [List.getD, hi] using h0
theorem swp2_all {l : List PairT} (h : ∀ x ∈ l, P x) (i j : Nat) : ∀ x ∈ swp2 l i j, P x := fun x hx => by
  unfold swp2 at hx
  rcases List.mem_or_eq_of_mem_set hx with hx | hx
  · rcases List.mem_or_eq_of_mem_set hx with hx | hx
    · exact h x hx
    · rw [hx]; exact getD_all h0 h j
  · rw [hx]; exact getD_all h0 h i
theorem swrF_all {l : List PairT} (h : ∀ x ∈ l, P x) (a b : Nat) : ∀ n, ∀ x ∈ swrF l a b n, P x
  | 0 => h
  | n + 1 => swp2_all h0 (swrF_all h a b n) _ _
theorem insIn_all (a : Nat) : ∀ j (l : List PairT), (∀ x ∈ l, P x) → ∀ x ∈ insIn a j l, P x
  | 0, l, h => h
  | j + 1, l, h => by
    rw [insIn]
    split
    · exact insIn_all a j _ (swp2_all h0 h _ _)
    · exact h
theorem insN_all {l : List PairT} (h : ∀ x ∈ l, P x) (a : Nat) : ∀ k, ∀ x ∈ insN l a k, P x
  | 0 => h
  | k + 1 => insIn_all h0 a _ _ (insN_all h a k)
theorem insF_all {l : List PairT} (h : ∀ x ∈ l, P x) (a b : Nat) : ∀ x ∈ insF l a b, P x := insN_all h0 h a _
theorem rotG_all (m : Nat) : ∀ f (l : List PairT) i j, (∀ x ∈ l, P x) → ∀ x ∈ rotG m f l i j, P x
  | 0, l, i, j, h => h
  | f + 1, l, i, j, h => by
    rw [rotG]
    split
    · exact swrF_all h0 h _ _ _
    · split
      · exact rotG_all m f _ _ _ (swrF_all h0 h _ _ _)
      · exact rotG_all m f _ _ _ (swrF_all h0 h _ _ _)
theorem upF_all {l : List PairT} (h : ∀ x ∈ l, P x) (a : Nat) : ∀ k, ∀ x ∈ upF l a k, P x
  | 0 => h
  | k + 1 => swp2_all h0 (upF_all h a k) _ _
theorem dnF_all {l : List PairT} (h : ∀ x ∈ l, P x) (m : Nat) : ∀ k, ∀ x ∈ dnF l m k, P x
  | 0 => h
  | k + 1 => swp2_all h0 (dnF_all h m k) _ _
theorem symF_all : ∀ f (l : List PairT) a m b, (∀ x ∈ l, P x) → ∀ x ∈ symF f l a m b, P x
  | 0, l, a, m, b, h => h
  | f + 1, l, a, m, b, h => by
    have ih := symF_all f
    rw [symF]
    split
    · exact upF_all h0 h _ _
    · split
      · exact dnF_all h0 h _ _
      · dsimp only
        have h1 : ∀ x ∈ (if stF l a m b < m ∧ m < (a + b) / 2 + m - stF l a m b then rotF l (stF l a m b) m ((a + b) / 2 + m - stF l a m b) else l), P x := by
          split
          · exact rotG_all h0 _ _ _ _ _ h
          · exact h
        generalize (if stF l a m b < m ∧ m < (a + b) / 2 + m - stF l a m b then rotF l (stF l a m b) m ((a + b) / 2 + m - stF l a m b) else l) = l1 at *
        split
        · split
          · exact ih _ _ _ _ (ih _ _ _ _ h1)
          · exact ih _ _ _ _ h1
        · split
          · exact ih _ _ _ _ h1
          · exact h1
theorem blkF_all : ∀ f (l : List PairT) a, (∀ x ∈ l, P x) → ∀ x ∈ (blkF f l a).1, P x
  | 0, l, a, h => h
  | f + 1, l, a, h => by
    rw [blkF]
    split
    · exact blkF_all f _ _ (insF_all h0 h _ _)
    · exact h
theorem mrgF_all (s : Nat) : ∀ f (l : List PairT) a, (∀ x ∈ l, P x) → ∀ x ∈ (mrgF s f l a).1, P x
  | 0, l, a, h => h
  | f + 1, l, a, h => by
    rw [mrgF]
    split
    · exact mrgF_all s f _ _ (symF_all h0 _ _ _ _ _ h)
    · exact h
theorem rndF_all (s : Nat) {l : List PairT} (h : ∀ x ∈ l, P x) : ∀ x ∈ rndF s l, P x := by
  unfold rndF
  dsimp only
  have := mrgF_all h0 s l.length l 0 h
  split
  · exact symF_all h0 _ _ _ _ _ this
  · exact this
theorem rndsF_all : ∀ f s (l : List PairT), (∀ x ∈ l, P x) → ∀ x ∈ rndsF f s l, P x
  | 0, s, l, h => h
  | f + 1, s, l, h => by
    rw [rndsF]
    split
    · exact rndsF_all f _ _ (rndF_all h0 s h)
    · exact h
theorem sortP_all {l : List PairT} (h : ∀ x ∈ l, P x) : ∀ x ∈ sortP l, P x := by
  unfold sortP
  exact rndsF_all h0 _ _ _ (insF_all h0 (blkF_all h0 _ _ _ h) _ _)
end
def RngP (x : PairT) : Prop := Rng x.2
theorem rng0 : RngP p0 := ⟨by show (0 : Int) ≤ 0; omega, by show (0 : Int) < 65536; omega⟩
theorem SPok.cond {p q : SP} {c : Bool × PairT} (h : SPok p) (e : condS p = some (c, q)) : RngP c.2 ∧ SPok q := by
  unfold condS at e
  split at e
  · simp only [Option.bind_eq_some_iff] at e
    obtain ⟨y, e1, e3⟩ := e
    injection e3 with e3; injection e3 with e4 e5; subst e4; subst e5
    exact h.part e1
  · simp only [Option.bind_eq_some_iff] at e
    obtain ⟨f, e1, r, e2, v, e3, e4⟩ := e
    injection e4 with e4; injection e4 with e5 e6; subst e5; subst e6
    exact ((h.field e1).must e2).value e3
theorem conds_good : ∀ {n : Nat} {w g : List PairT} {p q : SP} {x : List PairT × List PairT}, SPok p → (∀ y ∈ w, RngP y) → (∀ y ∈ g, RngP y) → condsGo n w g p = some (x, q) →
    (∀ y ∈ x.1, RngP y) ∧ (∀ y ∈ x.2, RngP y) ∧ SPok q ∧ x.1.length + x.2.length + q.l.length ≤ w.length + g.length + p.l.length
  | 0, _, _, _, _, _, _, _, _, e => by simp [condsGo] at e
  | n + 1, w, g, p, q, x, hp, hw, hg, e => by
    rw [condsGo] at e
    split at e
    · simp at e
    · rename_i b y r hy
      obtain ⟨g1, g2⟩ := hp.cond hy
      have hl := condS_len hy
      have ht := takeS_len (s := ampB) (p := r)
      have hw' : ∀ z ∈ (bif b then w else w ++ [y]), RngP z := by
        cases b
        · intro z hz
          rcases List.mem_append.1 hz with hz | hz
          · exact hw z hz
          · rw [List.mem_singleton.1 hz]; exact g1
        · exact hw
      have hg' : ∀ z ∈ (bif b then g ++ [y] else g), RngP z := by
        cases b
        · exact hg
        · intro z hz
          rcases List.mem_append.1 hz with hz | hz
          · exact hg z hz
          · rw [List.mem_singleton.1 hz]; exact g1
      have hlen : (bif b then w else w ++ [y]).length + (bif b then g ++ [y] else g).length = w.length + g.length + 1 := by
        cases b <;> simp <;> omega
      split at e
      · obtain ⟨k1, k2, k3, k4⟩ := conds_good (g2.take ampB) hw' hg' e
        exact ⟨k1, k2, k3, by have := ht.1; omega⟩
      · injection e with e; injection e with e1 e2; subst e1; subst e2
        exact ⟨hw', hg', g2.take ampB, by have := ht.1; show (bif b then w else w ++ [y]).length + (bif b then g ++ [y] else g).length + _ ≤ _; omega⟩
theorem part_good (s : ByteArray) : GoodR RngP (fun _ => 0) (partS s) := fun p x q hp e => by
  obtain ⟨g1, g2⟩ := hp.part e
  have := partS_len e
  exact ⟨g1, g2, by show 0 + q.l.length ≤ p.l.length; omega⟩
structure RuOk (N : Nat) (r : RuleT) : Prop where
  when : ∀ p ∈ r.when, RngP p
  guard : ∀ p ∈ r.guard, RngP p
  thn : ∀ p ∈ r.thn, RngP p
  lw : r.when.length ≤ N
  lg : r.guard.length ≤ N
  lt : r.thn.length ≤ N
theorem rule_good {N : Nat} {p q : SP} {r : RuleT} (hp : SPok p) (hN : p.l.length ≤ N) (e : ruleS p = some (r, q)) : RuOk N r ∧ SPok q := by
  simp only [ruleS, Option.bind_eq_some_iff] at e
  obtain ⟨x, e1, p2, e2, y, e3, p4, e4, e5⟩ := e
  injection e5 with e5; injection e5 with e6 e7; subst e6; subst e7
  obtain ⟨k1, k2, k3, k4⟩ := conds_good hp (by simp) (by simp) e1
  have k5 := k3.must e2
  obtain ⟨k6, k7, k8⟩ := (part_good asB).list k5 e3
  have k9 := k7.must e4
  have m1 := mustS_len e2
  simp at k4
  refine ⟨⟨sortP_all rng0 k1, sortP_all rng0 k2, sortP_all rng0 k6, ?_, ?_, ?_⟩, ⟨k9.l, k9.ns⟩⟩
  · show (sortP x.1.1).length ≤ N
    rw [sortP_len]; omega
  · show (sortP x.1.2).length ≤ N
    rw [sortP_len]; omega
  · show (sortP y.1).length ≤ N
    rw [sortP_len]; omega
theorem nums_good : ∀ {n : Nat} {acc : List Int} {p q : SP} {x : List Int}, SPok p → (∀ y ∈ acc, Rng y) → numsGo n acc p = some (x, q) → (∀ y ∈ x, Rng y) ∧ SPok q ∧ x.length + q.l.length ≤ acc.length + p.l.length
  | 0, _, _, _, _, _, _, e => by simp [numsGo] at e
  | n + 1, acc, p, q, x, hp, ha, e => by
    have ht := takeS_len (s := dotC) (p := p)
    rw [numsGo] at e
    split at e
    · injection e with e; injection e with e1 e2; subst e1; subst e2
      exact ⟨ha, hp.take dotC, by have := ht.1; omega⟩
    · simp only [Option.bind_eq_some_iff] at e
      obtain ⟨y, e1, e2⟩ := e
      obtain ⟨g1, g2⟩ := (hp.take dotC).num e1
      have hl := numS_len e1
      obtain ⟨k1, k2, k3⟩ := nums_good g2 (acc := acc ++ [y.1]) (fun z hz => by
        rcases List.mem_append.1 hz with hz | hz
        · exact ha z hz
        · rw [List.mem_singleton.1 hz]; exact g1) e2
      refine ⟨k1, k2, ?_⟩
      simp at k3
      have := ht.1
      omega
theorem nsPut_rng {ns : List (ByteArray × Int)} (h : ∀ e ∈ ns, Rng e.2) {n : Int} (hn : Rng n) (w : ByteArray) : ∀ e ∈ nsPut ns w n, Rng e.2 := by
  unfold nsPut
  split
  · intro e he
    rcases List.mem_or_eq_of_mem_set he with he | he
    · exact h e he
    · rw [he]; exact hn
  · intro e he
    rcases List.mem_append.1 he with he | he
    · exact h e he
    · rw [List.mem_singleton.1 he]; exact hn
theorem lets_good : ∀ {n : Nat} {p q : SP}, SPok p → letsGo n p = some q → SPok q ∧ q.l.length ≤ p.l.length
  | 0, _, _, _, e => by simp [letsGo] at e
  | n + 1, p, q, hp, e => by
    have ht := takeS_len (s := letC) (p := p)
    rw [letsGo] at e
    split at e
    · simp only [Option.bind_eq_some_iff] at e
      obtain ⟨w, e1, a, e2, y, e3, c, e4, e5⟩ := e
      have g1 := (hp.take letC).name e1
      have g2 := g1.must e2
      obtain ⟨g3, g4⟩ := g2.num e3
      have g5 := g4.must e4
      have l1 := nameS_len e1
      have l2 := mustS_len e2
      have l3 := numS_len e3
      have l4 := mustS_len e4
      obtain ⟨k1, k2⟩ := lets_good (p := noted c w.1 y.1) ⟨g5.l, nsPut_rng g5.ns g3 w.1⟩ e5
      refine ⟨k1, ?_⟩
      have : (noted c w.1 y.1).l.length = c.l.length := rfl
      have := ht.1
      omega
    · injection e with e; subst e
      exact ⟨hp.take letC, ht.1⟩
theorem rules_good {N : Nat} : ∀ {n : Nat} {acc : List RuleT} {p q : SP} {x : List RuleT}, SPok p → p.l.length ≤ N → (∀ y ∈ acc, RuOk N y) → rulesGo n acc p = some (x, q) → (∀ y ∈ x, RuOk N y) ∧ x.length + q.l.length ≤ acc.length + p.l.length
  | 0, _, _, _, _, _, _, _, e => by simp [rulesGo] at e
  | n + 1, acc, p, q, x, hp, hN, ha, e => by
    have ht := takeS_len (s := onC) (p := p)
    rw [rulesGo] at e
    split at e
    · simp only [Option.bind_eq_some_iff] at e
      obtain ⟨y, e1, e2⟩ := e
      obtain ⟨g1, g2⟩ := rule_good (N := N) (hp.take onC) (by have := ht.1; omega) e1
      have hl := ruleS_len e1
      have := ht.1
      have hy2 : y.2.l.length ≤ N := by omega
      obtain ⟨k1, k3⟩ := rules_good (acc := acc ++ [y.1]) (p := y.2) g2 hy2 (fun z hz => by
        rcases List.mem_append.1 hz with hz | hz
        · exact ha z hz
        · rw [List.mem_singleton.1 hz]; exact g1) e2
      refine ⟨k1, ?_⟩
      simp at k3
      omega
    · injection e with e; injection e with e1 e2; subst e1; subst e2
      exact ⟨ha, by have := ht.1; omega⟩
theorem prog_good {p q : SP} {x : ProgT} (hp : SPok p) (hN : p.l.length ≤ 2 ^ 20) (e : progS p = some (x, q)) : OkG x := by
  simp only [progS, headS, bodyS, Option.bind_eq_some_iff] at e
  obtain ⟨h, ⟨a, e1, n, e2, i, e3, b, e4, e5⟩, c, e6, s, e7, d, e8, rs, e9, e10⟩ := e
  injection e5 with e5
  subst e5
  split at e10
  · injection e10 with e10; injection e10 with e11 e12; subst e11; subst e12
    have g1 := hp.must e1
    have l1 := mustS_len e1
    obtain ⟨g2, g3⟩ := g1.num e2
    have l2 := numS_len e2
    obtain ⟨g4, g5, g6⟩ := nums_good g3 (fun y hy => by rw [List.mem_singleton.1 hy]; exact g2) e3
    obtain ⟨g7, g8⟩ := lets_good g5 e4
    have g9 := g7.must e6
    have l3 := mustS_len e6
    obtain ⟨g10, g11, g12⟩ := sum_good _ _ _ _ g9 e7
    have g13 := g11.must e8
    have l4 := mustS_len e8
    simp at g6
    dsimp only at *
    obtain ⟨g14, g15⟩ := rules_good (N := 2 ^ 20) g13 (by omega) (by simp) e9
    simp at g15
    exact ⟨g4, by show i.1.length ≤ 2 ^ 20; omega, g10, by show sizeP s.1 ≤ 2 ^ 20; omega, fun r hr => ⟨(g14 r hr).when, (g14 r hr).guard, (g14 r hr).thn, (g14 r hr).lw, (g14 r hr).lg, (g14 r hr).lt⟩, by show rs.1.length ≤ 2 ^ 20; omega⟩
  · exact absurd e10 (by simp)
theorem tok_rng {t : TokT} (h : TokOk t) : Rng t.n := by
  cases h <;> simp [Rng] <;> omega
theorem sp0_ok {l : List TokT} (h : ∀ t ∈ l, TokOk t) : SPok (sp0 l) :=
  ⟨fun t ht => by
    rcases List.mem_append.1 ht with ht | ht
    · exact tok_rng (h t ht)
    · rw [List.mem_singleton.1 ht]; exact ⟨by show (0 : Int) ≤ 0; omega, by show (0 : Int) < 65536; omega⟩, by simp [sp0]⟩
theorem parse_good {s : ByteArray} {l : List TokT} {e : Int} (h : tokensF vS s = (some (l ++ [noTok]), e)) {x : ProgT} {q : SP} (hx : progS (sp0 l) = some (x, q)) : OkG x := by
  obtain ⟨_, h1, l', h2, h3, _, h5⟩ := tok_some h
  have := List.append_cancel_right h2
  subst this
  exact prog_good (sp0_ok h3) (by simp [sp0]; omega) hx
theorem fitP (s : ByteArray) : FitP s := ⟨fun _ _ h _ _ hx => (parse_good h hx).small⟩
theorem parse_zero {s : ByteArray} {x : ProgT} (h : parseS s = (some x, 0)) : OkG x ∧ checkP x = 0 := by
  unfold parseS at h
  cases ht : tokensF vS s with
  | mk m e =>
    rw [ht] at h
    cases m with
    | none => simp at h
    | some m =>
      obtain ⟨_, _, l, rfl, _⟩ := tok_some ht
      have h : resS (progS (sp0 ((l ++ [noTok]).dropLast))) = (some x, 0) := h
      rw [List.dropLast_concat] at h
      cases hp : progS (sp0 l) with
      | none => rw [hp] at h; simp [resS] at h
      | some y =>
        obtain ⟨y, q⟩ := y
        rw [hp] at h
        have h : (if q.unk = true then ((none : Option ProgT), (12 : Int)) else if q.twi = true then (none, 11) else if checkP y = 0 then (some y, 0) else (none, checkP y)) = (some x, 0) := h
        split at h
        · simp at h
        · split at h
          · simp at h
          · split at h
            · rename_i hc
              injection h with h1 h2
              injection h1 with h1
              subst h1
              exact ⟨parse_good ht hp, hc⟩
            · simp at h
end Go.Ax
namespace Go.Ax
open Go.Proofs Go.Lib
set_option maxRecDepth 10000
theorem show_once {s : ByteArray} {x : ProgT} (h : parseS s = (some x, 0)) (hs : (progB x).size ≤ 4000) : parseS (progB x) = (some x, 0) ∧ FitP (progB x) :=
  show_back (parse_zero h).1 (parse_zero h).2 hs
theorem progB_ne (x : ProgT) : progB x ≠ ⟨#[]⟩ := fun h => by
  have h1 := congrArg (fun b : ByteArray => b.data.toList.length) h
  dsimp only at h1
  rw [progB, txt_rules, headG, bdat, bdat, bdat, txt_init] at h1
  simp [initB] at h1
end Go.Ax
namespace Go.Ax
open Go.Proofs Go.Lib
set_option maxRecDepth 10000
def aP1 : PolT := .mk 2 3 2 []
def aP2 : PolT := .mk 5 1 1 []
def aP : PolT := .mk 6 0 0 [aP1, aP2]
def aG : ProgT := ⟨[0], aP, []⟩
def aRow : List D := [.i64 6, .i64 0, .u16 0, .sl true 4 [zrow 2 3 2, zrow 5 1 1]]
theorem aRow_le : RowL aRow (rowP4 aP) :=
  .cons (.refl _) (.cons (.refl _) (.cons (.refl _) (.cons (RowsL.dl ((RowsL.one (push_row 2 3 2)).app (RowsL.one (push_row 5 1 1)))) (.refl []))))
theorem aP_form : formP 1 aP = true := by simp [aP, aP1, aP2, formP, formsN]
theorem aP_text : polB aP = ⟨#[100, 115, 116, 61, 50, 32, 59, 32, 112, 116, 58, 61, 49]⟩ := by
  have h1 : digB (1 : Int).toNat = ⟨#[49]⟩ := by rw [show (1 : Int).toNat = 1 from rfl, digB, decDigits_one (by decide)]; rfl
  have h2 : digB (2 : Int).toNat = ⟨#[50]⟩ := by rw [show (2 : Int).toNat = 2 from rfl, digB, decDigits_one (by decide)]; rfl
  simp only [aP, aP1, aP2, polB, kidsB, headB, h1, h2, bareB, PolT.op]
  first | kernel_rfl | decide +kernel
theorem aP_size : sizeP aP = 3 := by simp [aP, aP1, aP2, sizeP, sizesP]
theorem aP_depth : depthP aP = 2 := by simp [aP, aP1, aP2, depthP, depthsP]
theorem aP_ok : okPol aP := by simp [aP, aP1, aP2, okPol, okPols]
theorem aP_form4 : formP 4 aP = true := by simp [aP, aP1, aP2, formP, formsN]
theorem aG_check : checkP aG = 0 := by
  rw [check_at aG ⟨by decide, by decide, by show sizeP aP ≤ 300; rw [aP_size]; decide, by show depthP aP ≤ 20; rw [aP_depth]; decide, by decide⟩ aP_form]
  rfl
theorem aP_check : checkP (polG aP) = 0 := by
  rw [check_at (polG aP) ⟨by decide, by decide, by show sizeP aP ≤ 300; rw [aP_size]; decide, by show depthP aP ≤ 20; rw [aP_depth]; decide, by decide⟩ aP_form4]
  rfl
def aText : ByteArray := ⟨#[105, 110, 105, 116, 32, 48, 32, 46, 10, 112, 111, 108, 105, 99, 121, 32, 100, 115, 116, 61, 50, 32, 59, 32, 112, 116, 58, 61, 49, 32, 46, 10]⟩
theorem aG_text : showGF aG = aText := by
  have h0 : digB (0 : Int).toNat = ⟨#[48]⟩ := by rw [show (0 : Int).toNat = 0 from rfl, digB, decDigits_one (by decide)]; rfl
  rw [showGF, if_pos aG_check]
  simp only [progB, headG, aG, aP_text, swB, h0, List.foldl_cons, List.foldl_nil]
  first | kernel_rfl | decide +kernel
theorem awake6_ctr (g : GP) (hg : ∀ w, g.G w → PowG w) : Ctr (ax g).E 19 [] [] (fun o => o = .ret (.bool true) []) := by
  have c1 := (showpol_ctr g hg aP aP_ok (by rw [aP_size]; decide)).leR aRow_le
  rw [showPF, if_pos aP_check, aP_text] at c1
  have c2 := (showprog_ctr g hg aG ⟨by decide, by decide, aP_ok, by show sizeP aP ≤ _; rw [aP_size]; decide, by simp [aG], by decide⟩).leR (xs := [.sl true 1 [[.u16 0]], .i64 6, .i64 0, .u16 0, .sl true 4 [zrow 2 3 2, zrow 5 1 1], .v (.slice none 0 0)])
    (.cons (RowsL.dl (RowsL.one (.refl _))) (.cons (.refl _) (.cons (.refl _) (.cons (.refl _) (.cons (RowsL.dl ((RowsL.one (push_row 2 3 2)).app (RowsL.one (push_row 5 1 1)))) (.cons (.nil false 3) (.refl [])))))))
  rw [aG_text] at c2
  refine Ctr.body (X := ax g) _ 17 [] [.tmp 0] Tryd.func19 rfl rfl rfl rfl (by decide +kernel) rfl rfl ?_
  conv => whnf
  repeat' (first | (refine And.intro (by first | exact rfl | decide | exact Nat.le_of_ble_eq_true rfl | exact ⟨_, rfl⟩ | exact ⟨_, _, rfl⟩ | exact Nat.le_refl _ | exact Int.le_refl _ | omega | (simp only []; omega) | exact True.intro | (simp only []; omega) | (simp only [List.map_cons, List.map_nil, List.length_cons]; omega) | (simp only [List.length_cons, List.length_nil]; omega) | exact ⟨⟨_, _, rfl, rfl, Nat.le_of_ble_eq_true rfl⟩, trivial⟩ | exact ⟨⟨_, _, rfl, rfl, Nat.le_of_ble_eq_true rfl⟩, ⟨_, _, rfl, rfl, Nat.le_of_ble_eq_true rfl⟩, trivial⟩ | exact ⟨⟨_, _, rfl, rfl, Nat.le_of_ble_eq_true rfl⟩, ⟨_, _, rfl, rfl, Nat.le_of_ble_eq_true rfl⟩, ⟨_, _, rfl, rfl, Nat.le_of_ble_eq_true rfl⟩, trivial⟩) ?_; conv => whnf) | (refine ifB_intro (fun hA => ?_) (fun hA => ?_) <;> (try rw [hA]) <;> (conv => whnf) <;> (first | replace hA := of_decide_eq_true hA | replace hA := of_decide_eq_false hA | replace hA := eq_of_beq hA | replace hA := ne_of_beq_false hA | replace hA := bne_iff_ne.1 hA | replace hA := bne_eq_false_iff_eq.1 hA | skip) <;> (try simp only [List.length_map, cond_true, cond_false, Bool.not_eq_true', Bool.not_eq_false', beq_iff_eq, beq_eq_false_iff_ne, ne_eq] at hA)) | (refine CallP.det (c1) ?_; conv => whnf) | (refine CallD.det (c1) ?_; conv => whnf) | (refine CallP.det (c2) ?_; conv => whnf) | (refine CallD.det (c2) ?_; conv => whnf) | (rw [getD_map _ _ _ _ (by assumption)]; conv => whnf))
  refine ⟨⟨[], ?_⟩⟩
  conv => whnf
  kernel_rfl
end Go.Ax
namespace Go.Ax
open Go.Proofs Go.Lib
set_option maxRecDepth 10000
theorem checkP_err {s : ByteArray} {x : Option ProgT} {e : Int} (h : parseS s = (x, e)) : (e = 0 ∧ ∃ y, x = some y) ∨ (e ≠ 0 ∧ x = none) := by
  unfold parseS at h
  split at h
  · rename_i e1 hT
    injection h with h1 h2
    subst h1; subst h2
    exact .inr ⟨tok_err hT, rfl⟩
  · rename_i l e1 hT
    unfold resS at h
    split at h
    · injection h with h1 h2; subst h1; subst h2; exact .inr ⟨by decide, rfl⟩
    · split at h
      · injection h with h1 h2; subst h1; subst h2; exact .inr ⟨by decide, rfl⟩
      · split at h
        · injection h with h1 h2; subst h1; subst h2; exact .inr ⟨by decide, rfl⟩
        · split at h
          · injection h with h1 h2; subst h1; subst h2; exact .inl ⟨rfl, _, rfl⟩
          · rename_i hc
            injection h with h1 h2; subst h1; subst h2; exact .inr ⟨hc, rfl⟩
theorem showOnce_ctr (g : GP) (hp : ∀ w, g.G w → PowG w) (hg : ∀ w, g.G w → LibG w) (s : ByteArray) : Ctr (ax g).E 5 [.str s] [] (fun o => o = .ret (.bool true) []) := by
  have h0 := awake6_ctr g hp
  refine Ctr.body (X := ax g) _ 42 [] [.tmp 2] Tryd.func5 rfl rfl rfl rfl (by decide +kernel) rfl rfl ?_
  conv => whnf
  repeat' (first | (refine And.intro (by first | exact rfl | decide | exact Nat.le_of_ble_eq_true rfl | exact ⟨_, rfl⟩ | exact ⟨_, _, rfl⟩ | omega | (simp only [List.length_map]; omega) | exact True.intro | (simp only [IntKind.wrap_i64, List.length_map]; omega) | (simp only [List.map_cons, List.map_nil, List.length_cons, Option.getD]; omega) | (simp only [bsz, ByteArray.size_append, List.size_toArray, List.length_cons, List.length_nil]; omega)) ?_; conv => whnf) | (refine ifB_intro (fun hA => ?_) (fun hA => ?_) <;> (try rw [hA]) <;> (conv => whnf) <;> (first | replace hA := of_decide_eq_true hA | replace hA := of_decide_eq_false hA | replace hA := eq_of_beq hA | replace hA := ne_of_beq_false hA | replace hA := bne_iff_ne.1 hA | replace hA := bne_eq_false_iff_eq.1 hA | skip) <;> (try simp only [List.length_map, cond_true, cond_false, Bool.not_eq_true', Bool.not_eq_false', beq_iff_eq, beq_eq_false_iff_ne, ne_eq] at hA)) | (refine CallP.det (h0) ?_; conv => whnf) | (refine CallD.det (h0) ?_; conv => whnf))
  · refine ⟨⟨[], ?_⟩⟩
    conv => whnf
  · have h1 := parse5_ctr g hg s (by omega) (fitP s)
    cases hS : parseS s with
    | mk xo e =>
      rw [hS] at h1
      rcases checkP_err hS with ⟨rfl, x, rfl⟩ | ⟨he, rfl⟩
      · obtain ⟨ho, hc⟩ := parse_zero hS
        have h2 := showprog_ctr g hp x ho
        have e2 : showGF x = progB x := if_pos hc
        rw [e2] at h2
        obtain ⟨xi, xp, xr⟩ := x
        obtain ⟨po, pf, pn, pk⟩ := xp
        repeat' (first | (refine And.intro (by first | exact rfl | decide | exact Nat.le_of_ble_eq_true rfl | exact ⟨_, rfl⟩ | exact ⟨_, _, rfl⟩ | omega | (simp only [List.length_map]; omega) | exact True.intro | (simp only [IntKind.wrap_i64, List.length_map]; omega) | (simp only [List.map_cons, List.map_nil, List.length_cons, Option.getD]; omega) | (simp only [bsz, ByteArray.size_append, List.size_toArray, List.length_cons, List.length_nil]; omega)) ?_; conv => whnf) | (refine ifB_intro (fun hA => ?_) (fun hA => ?_) <;> (try rw [hA]) <;> (conv => whnf) <;> (first | replace hA := of_decide_eq_true hA | replace hA := of_decide_eq_false hA | replace hA := eq_of_beq hA | replace hA := ne_of_beq_false hA | replace hA := bne_iff_ne.1 hA | replace hA := bne_eq_false_iff_eq.1 hA | skip) <;> (try simp only [List.length_map, cond_true, cond_false, Bool.not_eq_true', Bool.not_eq_false', beq_iff_eq, beq_eq_false_iff_ne, ne_eq] at hA)) | (refine CallP.det (h1) ?_; conv => whnf) | (refine CallD.det (h1) ?_; conv => whnf) | (refine CallP.det (h2) ?_; conv => whnf) | (refine CallD.det (h2) ?_; conv => whnf))
        · refine ⟨⟨[], ?_⟩⟩
          conv => whnf
        · have hs : (progB ⟨xi, .mk po pf pn pk, xr⟩).size ≤ 4000 := by omega
          obtain ⟨h3, h4⟩ := show_once hS hs
          have hne : (progB ⟨xi, .mk po pf pn pk, xr⟩).data.toList ≠ [] := fun h => progB_ne ⟨xi, .mk po pf pn pk, xr⟩ (by apply ByteArray.ext; simpa using h)
          have h5 := parse5_ctr g hg (progB ⟨xi, .mk po pf pn pk, xr⟩) (by omega) h4
          rw [h3] at h5
          repeat' (first | (refine And.intro (by first | exact rfl | decide | exact Nat.le_of_ble_eq_true rfl | exact ⟨_, rfl⟩ | exact ⟨_, _, rfl⟩ | omega | (simp only [List.length_map]; omega) | exact True.intro | (simp only [IntKind.wrap_i64, List.length_map]; omega) | (simp only [List.map_cons, List.map_nil, List.length_cons, Option.getD]; omega) | (simp only [bsz, ByteArray.size_append, List.size_toArray, List.length_cons, List.length_nil]; omega)) ?_; conv => whnf) | (refine ifB_intro (fun hA => ?_) (fun hA => ?_) <;> (try rw [hA]) <;> (conv => whnf) <;> (first | replace hA := of_decide_eq_true hA | replace hA := of_decide_eq_false hA | replace hA := eq_of_beq hA | replace hA := ne_of_beq_false hA | replace hA := bne_iff_ne.1 hA | replace hA := bne_eq_false_iff_eq.1 hA | skip) <;> (try simp only [ne_eq] at hA)) | (refine CallP.det (h5) ?_; conv => whnf) | (refine CallD.det (h5) ?_; conv => whnf) | (refine CallP.det (h2) ?_; conv => whnf) | (refine CallD.det (h2) ?_; conv => whnf))
          all_goals first
            | exact absurd ‹_› hne
            | (refine ⟨⟨[], ?_⟩⟩; (conv => whnf); simp; done)
      · repeat' (first | (refine And.intro (by first | exact rfl | decide | exact Nat.le_of_ble_eq_true rfl | exact ⟨_, rfl⟩ | exact ⟨_, _, rfl⟩ | omega | (simp only [List.length_map]; omega) | exact True.intro | (simp only [IntKind.wrap_i64, List.length_map]; omega) | (simp only [List.map_cons, List.map_nil, List.length_cons, Option.getD]; omega) | (simp only [bsz, ByteArray.size_append, List.size_toArray, List.length_cons, List.length_nil]; omega)) ?_; conv => whnf) | (refine ifB_intro (fun hA => ?_) (fun hA => ?_) <;> (try rw [hA]) <;> (conv => whnf) <;> (first | replace hA := of_decide_eq_true hA | replace hA := of_decide_eq_false hA | replace hA := eq_of_beq hA | replace hA := ne_of_beq_false hA | replace hA := bne_iff_ne.1 hA | replace hA := bne_eq_false_iff_eq.1 hA | skip) <;> (try simp only [ne_eq] at hA)) | (refine CallP.det (h1) ?_; conv => whnf) | (refine CallD.det (h1) ?_; conv => whnf))
        all_goals first | exact absurd ‹_› he | (refine ⟨⟨[], ?_⟩⟩; (conv => whnf); done)
end Go.Ax
